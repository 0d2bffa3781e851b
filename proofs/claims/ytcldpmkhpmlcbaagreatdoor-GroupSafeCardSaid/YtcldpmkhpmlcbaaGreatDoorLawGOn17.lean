/- GroupOnce: the walk. -/
import Derived.Test.YtcldpmkhpmlcbaaGreatDoorJ23
import Derived.Test.YtcldpmkhpmlcbaaGreatDoorJ22
import Derived.BigQuiet
set_option linter.unusedVariables false
set_option linter.unusedSimpArgs false
namespace Go.Proofs.YtcldpmkhpmlcbaaGreatDoor
open Go.RowKit Go.Shelf Go.Maps

theorem fewL_parts {c : Cfg} {l : List CmdV} (h : fewL c l = true) : l.length ≤ 60 := by
  simp only [fewL, Bool.and_eq_true, decide_eq_true_eq] at h
  exact h.1.2
theorem id_eq17 {a b : IdD} (h1 : a.ses = b.ses) (h2 : a.seq = b.seq) : a = b := by
  cases a; cases b; simp only at h1 h2; rw [h1, h2]
theorem getD_memO {l : List OutD} {k : Nat} (h : k < l.length) : l.getD k noOut ∈ l := by
  rw [List.getD_eq_getElem?_getD, List.getElem?_eq_getElem h]
  exact List.getElem_mem h
theorem OnceIn.dec {w0 wr wz : World} {B p n : Nat} {c : Cfg} {g : Int} {lab : Nat → Lab} {x : MachD} {dv : Value} {ds : List OutD} (h : OnceIn w0 wr B p c g n lab x dv ds) (hb : Below wr.heap.size wr wz) {o : OutD} (ho : o ∈ ds) :
    Calls Tryz.prog 13 #[.pointer (some ⟨p, 0, none⟩), .agg #[.int .i64 o.id.ses, .int .i64 o.id.seq]] wz fun e w' => e = .returned (.tuple #[.bool o.yes, .int .u64 (o.stamp : Int), .bool true]) ∧ Below wz.heap.size wz w' := by
  obtain ⟨E, ov, os, hm⟩ := h.m
  have h3 := (h.ok o ho).2.2
  have := decided17 (hm.m.later hb) (okId_of (hm.k.dk o.id (by rw [h3]; rfl)))
  rw [decOf, h3] at this
  exact this
set_option maxRecDepth 100000 in
set_option maxHeartbeats 8000000 in
theorem law_gonce (c : Cfg) (l : List CmdV) (A B' S : Option Addr) (ca cb cs : Nat) (g : Int) (w : World) (h : CfgAt w c A B') (hl : CmdsAt w S l) (hn : l.length ≤ 9223372036854775807) (hT : Tabs w) :
    Calls Tryz.prog 3 #[.agg #[.slice A c.reps.length ca, .slice B' c.bnds.length cb], .int .i64 g, .slice S l.length cs] w fun e w' => e = .returned (.bool true) ∧ Below w.heap.size w w' := by
  obtain ⟨W, eW, HB, c0, c1⟩ := box2 w (.slice A c.reps.length ca) (.slice B' c.bnds.length cb) 25
  have hW := Lib.hid (h.later HB)
  have hl2 := Lib.hid (hl.later HB)
  have hTW := Lib.hid (hT.later HB)
  have hAw : Hid (∀ wz, Below W.heap.size W wz → Calls Tryz.prog 9 #[] wz fun e w' => e = .returned (.bool true) ∧ Below wz.heap.size wz w') := fun wz hb => awake17 wz (hTW.out.later hb)
  have hFe : Hid (∀ wz, Below W.heap.size W wz → Calls Tryz.prog 10 #[.agg #[.slice A c.reps.length ca, .slice B' c.bnds.length cb], .slice S l.length cs] wz fun e w' => e = .returned (.bool (fewL c l)) ∧ Below wz.heap.size wz w') := fun wz hb => fewL_any c l A B' S ca cb cs wz (hW.out.later hb) (hl2.out.later hb) hn
  have hbb : Below W.heap.size W W := Below.refl _ _
  have hold : Hid (Old w.heap.size c.reps.length A ∧ Old w.heap.size c.bnds.length B') := ⟨fun a e hn0 => by
      obtain ⟨b, off, e1, hc⟩ := h.ints 0 hn0
      rw [e] at e1; cases e1
      exact blk_lt hc, fun a e hn0 => by
      obtain ⟨b, off, e1, hc⟩ := h.strs 0 hn0
      rw [e] at e1; cases e1
      exact blk_lt hc⟩
  have hlold : Hid (∀ k, k < l.length → Old w.heap.size (l.getD k noCmd).t.rds.length (l.getD k noCmd).A ∧ Old w.heap.size (l.getD k noCmd).t.wrs.length (l.getD k noCmd).B) := fun k hk => by
    obtain ⟨_, _, _, _, ht⟩ := hl k hk
    refine ⟨fun a e hn0 => ?_, fun a e hn0 => ?_⟩
    · obtain ⟨b, off, e1, hc, _⟩ := ht.rds 0 hn0
      rw [e] at e1; cases e1
      exact blk_lt hc
    · obtain ⟨b, off, e1, hc, _⟩ := ht.wrs 0 hn0
      rw [e] at e1; cases e1
      exact blk_lt hc
  clear h hl hT
  cases hf : fewL c l
  · rw [hf] at hFe
    clear hf
    go_enter Tryz.func3, Tryz.ntmps3
    go_wp2_with (first
      | (go_at_call 9; (with_reducible refine (hAw.out _ hbb).mono ?_); rintro e w0 ⟨rfl, hb0⟩; replace hbb := keepB hbb hb0; clear hb0; have d0 := keep hbb c0; have d1 := keep hbb c1)
      | (go_at_call 10; (with_reducible refine (hFe.out _ hbb).mono ?_); rintro e w1 ⟨rfl, hb0⟩; replace hbb := keepB hbb hb0; clear hb0; have d0 := keep hbb c0; have d1 := keep hbb c1))
    go_ret
    exact ⟨rfl, keepB HB hbb⟩
  rw [hf] at hFe
  have h60 := Lib.hid (fewL_parts hf)
  clear hf
  by_cases hok : formedB c = true ∧ 0 ≤ g ∧ g < (c.reps.length : Int)
  case neg =>
    have hNo : Hid (∀ wz, Below W.heap.size W wz → Calls Tryz.prog 11 #[.agg #[.slice A c.reps.length ca, .slice B' c.bnds.length cb], .int .i64 g] wz fun e w' => e = .returned (.pointer none) ∧ Below wz.heap.size wz w') := fun wz hb => grNew_no (hW.out.later hb) hok
    clear hok
    go_enter Tryz.func3, Tryz.ntmps3
    go_wp2_with (first
      | (go_at_call 9; (with_reducible refine (hAw.out _ hbb).mono ?_); rintro e w0 ⟨rfl, hb0⟩; replace hbb := keepB hbb hb0; clear hb0; have d0 := keep hbb c0; have d1 := keep hbb c1)
      | (go_at_call 10; (with_reducible refine (hFe.out _ hbb).mono ?_); rintro e w1 ⟨rfl, hb0⟩; replace hbb := keepB hbb hb0; clear hb0; have d0 := keep hbb c0; have d1 := keep hbb c1)
      | (go_at_call 11; (with_reducible refine (hNo.out _ hbb).mono ?_); rintro e w2 ⟨rfl, hb0⟩; replace hbb := keepB hbb hb0; clear hb0))
    go_ret
    exact ⟨rfl, keepB HB hbb⟩
  case pos =>
    have hNew : Hid (∀ wz, Below W.heap.size W wz → Calls Tryz.prog 11 #[.agg #[.slice A c.reps.length ca, .slice B' c.bnds.length cb], .int .i64 g] wz (GNewPost wz c g)) := fun wz hb => by
      have hs : w.heap.size ≤ wz.heap.size := Nat.le_trans HB.size hb.size
      exact grNew_ok (hW.out.later hb) (fun a e hn0 => Nat.lt_of_lt_of_le (hold.out.1 a e hn0) hs) (fun a e hn0 => Nat.lt_of_lt_of_le (hold.out.2 a e hn0) hs) hok.1 hok.2.1 hok.2.2
    have hokH := Lib.hid hok
    clear hok
    go_enter Tryz.func3, Tryz.ntmps3
    go_wp2_with (first
      | (go_at_call 9; (with_reducible refine (hAw.out _ hbb).mono ?_); rintro e w0 ⟨rfl, hb0⟩; replace hbb := keepB hbb hb0; clear hb0; have d0 := keep hbb c0; have d1 := keep hbb c1)
      | (go_at_call 10; (with_reducible refine (hFe.out _ hbb).mono ?_); rintro e w1 ⟨rfl, hb0⟩; replace hbb := keepB hbb hb0; clear hb0; have d0 := keep hbb c0; have d1 := keep hbb c1)
      | (go_at_call 11; (with_reducible refine (hNew.out _ hbb).mono ?_); rintro e w2 ⟨p, lab0, E0, rfl, hM0, hb2, hz0⟩))
    have hb3 := keepB hbb hb2
    obtain ⟨Bb, hBb⟩ : ∃ Bb, w1.heap.size = Bb := ⟨_, rfl⟩
    rw [hBb] at hM0
    have hwB : W.heap.size ≤ Bb := by have := hbb.size; omega
    have HI0 : Hid (OnceIn W w2 Bb p c g (2 * 0) lab0 (mach0 g) (.slice none 0 0) [] ∧ ([] : List OutD).length ≤ 1000 * 0) :=
      ⟨⟨⟨_, _, _, GrAt.made hM0 hz0 (Below.refl _ _) hokH.out.1 hokH.out.2.1 hokH.out.2.2 (TabB.of hTW.out hwB (hTW.out.later hb3))⟩, own_nil _ _ _ _, (fun b e => by cases e), (fun o ho => by cases ho), hb3, hwB⟩, Nat.zero_le _⟩
    have hWs := Lib.hid HB.size
    clear hAw hFe hNew hW d0 d1 c0 c1 hbb hb2 hb3 hM0 hz0 hBb hTW eW
    go_loopw [8, 9] (fun dv i wr => ∃ (k : Nat) (lab : Nat → Lab) (x : MachD) (ds : List OutD), k ≤ l.length ∧ i = .int .i64 k ∧ Hid (OnceIn W wr Bb p c g (2 * k) lab x dv ds ∧ ds.length ≤ 1000 * k)) (fun _ i _ => l.length - (intOf i).toNat)
    case atStart => exact ⟨0, lab0, mach0 g, [], Nat.zero_le _, rfl, HI0⟩
    case round =>
      obtain ⟨k, lab, x, ds, hk, rfl, HI⟩ := hrel
      obtain ⟨wi, rfl⟩ : ∃ wi : World, wi = wr := ⟨_, rfl⟩
      have hwb := HI.out.1.b
      by_cases hlt : k < l.length
      · obtain ⟨E1, ov1, os1, hG⟩ := HI.out.1.m
        obtain ⟨b, off, a, rfl, hr, ht, HX⟩ := (hl2.out.later hwb).at' hlt
        obtain ⟨x0, x1, x2, x3, x4, x5, x6, x7, x8, x9⟩ := cmd_agg hr
        have ho := hlold.out k hlt
        rw [HX.out] at ho
        have hsB : w.heap.size ≤ Bb := Nat.le_trans hWs.out hwB
        have hAp : Hid (Calls Tryz.prog 12 #[.pointer (some ⟨p, 0, none⟩), .agg #[.int .i64 a.k, .int .i64 a.t.ses, .int .i64 a.t.seq, .slice a.A a.t.rds.length a.ca, .slice a.B a.t.wrs.length a.cb, .int .i64 a.is, .int .i64 a.iq, .int .i64 a.g, .int .u64 (a.st : Int), .bool a.y]] wi fun e w' => ∃ v, e = .returned v ∧ ApPost wi w' Bb p c g (2 * k) lab x a v) :=
          apply17 hG a ht (fun q e hn0 => .inl (Nat.lt_of_lt_of_le (ho.1 q e hn0) hsB)) (fun q e hn0 => .inl (Nat.lt_of_lt_of_le (ho.2 q e hn0) hsB)) (by have := h60.out; omega)
        obtain ⟨A1, k1, rfl, hD1⟩ := outs_of_own HI.out.1.d
        have hki : (k : Int) < (l.length : Int) := by omega
        have hk0 : (0 : Int) ≤ (k : Int) := by omega
        have hkH := Lib.hid hlt
        clear hG hr ht ho hsB hlt hwb hD1
        go_wp2_with (go_at_call 12; (with_reducible refine hAp.out.mono ?_); rintro e w1 ⟨v, rfl, hv⟩; obtain ⟨lab1, hO1, hR1, hS1, hL1⟩ := HI.out.1.apply hv; obtain ⟨Al, kl, rfl, hAl⟩ := outs_of_own hR1.1)
        obtain ⟨os, hos⟩ : ∃ os, applyO c g x a = os := ⟨_, rfl⟩
        obtain ⟨x', hx'⟩ : ∃ x', applyM c g x a = x' := ⟨_, rfl⟩
        rw [hos] at hR1 hS1 hL1 hAl ⊢
        rw [hx'] at hO1 hS1
        have hosl : Hid (os.length ≤ 900) := by have := h60.out; have := hkH.out; show _ ≤ _; omega
        have hS1H := Lib.hid hS1
        have hI1 : Hid (OnceIn W w1 Bb p c g (2 * k + 2) lab1 x' (.slice A1 ds.length k1) ds ∧ OutRow w1 Bb lab1 (.slice Al os.length kl) os ∧ ds.length ≤ 1000 * k + 0) := ⟨hO1, hR1, HI.out.2⟩
        clear hAp HI hos hx' hO1 hR1 hS1 hL1 hAl x0 x1 x2 x3 x4 x5 x6 x7 x8 x9 hv
        go_wp2
        go_loopw [8, 11] (fun dv i wr => ∃ (k2 : Nat) (ds2 : List OutD), k2 ≤ os.length ∧ i = .int .i64 k2 ∧ Hid (OnceIn W wr Bb p c g (2 * k + 2) lab1 x' dv ds2 ∧ OutRow wr Bb lab1 (.slice Al os.length kl) os ∧ ds2.length ≤ 1000 * k + k2)) (fun _ i _ => os.length - (intOf i).toNat)
        case atStart => exact ⟨0, ds, Nat.zero_le _, rfl, hI1⟩
        case round =>
          obtain ⟨k2, ds2, hk2, rfl, HI2⟩ := hrel
          obtain ⟨wj, rfl⟩ : ∃ wj : World, wj = wr := ⟨_, rfl⟩
          obtain ⟨A2, kc2, rfl, hD2⟩ := outs_of_own HI2.out.1.d
          obtain ⟨Al', kl', eAl, hAl⟩ := outs_of_own HI2.out.2.1.1
          cases eAl
          replace hD2 := Lib.hid hD2
          by_cases hlt2 : k2 < os.length
          · obtain ⟨bo, oo, o, rfl, ⟨o0, o1, o2, o3, o4, o5⟩, HO⟩ := hAl.at' hlt2
            have hmem : o ∈ os := by rw [← HO.out]; exact getD_memO hlt2
            have hki2 : (k2 : Int) < (os.length : Int) := by omega
            have hk02 : (0 : Int) ≤ (k2 : Int) := by omega
            have hk2H := Lib.hid hlt2
            have hk2b : k2 < 1000000 := by have := hosl.out; omega
            by_cases hkd : o.kind = 4
            · have hsd := Lib.hid (hS1H.out o hmem hkd)
              have q4 : (o.kind != 4) = false := by simp [hkd]
              have hkdH := Lib.hid hkd
              clear hkd hlt2 hmem hAl
              go_wp2
              go_loopw [12] (fun i wr => ∃ k3 : Nat, k3 ≤ ds2.length ∧ i = .int .i64 k3 ∧ Below wj.heap.size wj wr) (fun i _ => ds2.length - (intOf i).toNat)
              case atStart => exact ⟨0, Nat.zero_le _, rfl, Below.refl _ _⟩
              case round =>
                obtain ⟨k3, hk3, rfl, hw3⟩ := hrel
                obtain ⟨wk, rfl⟩ : ∃ wk : World, wk = wr := ⟨_, rfl⟩
                by_cases hlt3 : k3 < ds2.length
                · obtain ⟨bd, od, d, rfl, ⟨d0, d1, d2, d3, d4, d5⟩, HD⟩ := (hD2.out.later hw3).at' hlt3
                  replace o0 := keep hw3 o0
                  replace o1 := keep hw3 o1
                  replace o2 := keep hw3 o2
                  replace o3 := keep hw3 o3
                  replace o4 := keep hw3 o4
                  replace o5 := keep hw3 o5
                  have hki3 : (k3 : Int) < (ds2.length : Int) := by omega
                  have hk03 : (0 : Int) ≤ (k3 : Int) := by omega
                  have hdm : d ∈ ds2 := by rw [← HD.out]; exact getD_memO hlt3
                  have hdok := HI2.out.1.ok d hdm
                  have hk3H := Lib.hid hlt3
                  have hk3b : k3 < 3000000 := by have := HI2.out.2.2; have := hkH.out; have := h60.out; omega
                  by_cases e1 : d.id.ses = o.id.ses
                  · by_cases e2 : d.id.seq = o.id.seq
                    · have hdo : d = o := by
                        have hid : d.id = o.id := id_eq17 e1 e2
                        have h1 := hdok.2.2
                        rw [hid, hsd.out.2] at h1
                        injection h1 with h1
                        injection h1 with h2 h3
                        have h4 := hdok.1
                        have h5 := hdok.2.1
                        have h6 := hsd.out.1
                        have h7 := hkdH.out
                        obtain ⟨a1, a2, a3, a4, a5⟩ := d
                        obtain ⟨b1, b2, b3, b4, b5⟩ := o
                        simp only at *
                        rw [h4, h5, h6, h7, h2, h3, hid]
                      subst hdo
                      clear e1 e2 hdok hdm HD hlt3 hsd hkdH
                      go_wp2
                      go_quiet (fail)
                      go_wp2
                      go_roundw
                      case rel => exact ⟨k3 + 1, by have := hk3H.out; omega, by go_num, below_drewN hw3 _⟩
                      case measure => have := hk3H.out; simp [intOf]; omega
                    · clear hdok hdm HD hlt3 hsd hkdH
                      go_wp2
                      go_quiet (fail)
                      go_wp2
                      go_roundw
                      case rel => exact ⟨k3 + 1, by have := hk3H.out; omega, by go_num, below_drewN hw3 _⟩
                      case measure => have := hk3H.out; simp [intOf]; omega
                  · clear hdok hdm HD hlt3 hsd hkdH
                    go_wp2
                    go_quiet (fail)
                    go_wp2
                    go_roundw
                    case rel => exact ⟨k3 + 1, by have := hk3H.out; omega, by go_num, below_drewN hw3 _⟩
                    case measure => have := hk3H.out; simp [intOf]; omega
                · obtain rfl : k3 = ds2.length := by omega
                  have HI4 := Lib.hid (HI2.out.1.later hw3)
                  have hR4 : Hid (OutRow wk Bb lab1 (.slice (some ⟨bo, oo, none⟩) os.length kl) os) := ⟨own_keep HI2.out.2.1.1 hw3, HI2.out.2.1.2⟩
                  have hdl4 := Lib.hid HI2.out.2.2
                  replace o0 := keep hw3 o0
                  replace o1 := keep hw3 o1
                  replace o2 := keep hw3 o2
                  replace o3 := keep hw3 o3
                  replace o4 := keep hw3 o4
                  replace o5 := keep hw3 o5
                  have hown := own_keep HI4.out.d (below1 wk (.cells #[.int .i64 o.kind, .int .i64 o.dst, .int .i64 o.id.ses, .int .i64 o.id.seq, .int .u64 (o.stamp : Int), .bool o.yes] 43))
                  have hnews : ∀ j u, (outV o)[j]? = some u → (wk.alloc (.cells #[.int .i64 o.kind, .int .i64 o.dst, .int .i64 o.id.ses, .int .i64 o.id.seq, .int .u64 (o.stamp : Int), .bool o.yes] 43)).cell? ((⟨wk.heap.size, 0, none⟩ : Addr).add j) = some u := World.news_of_block (heap_alloc_new wk (.cells #[.int .i64 o.kind, .int .i64 o.dst, .int .i64 o.id.ses, .int .i64 o.id.seq, .int .u64 (o.stamp : Int), .bool o.yes] 43))
                  have hBA : Bb ≤ (wk.alloc (.cells #[.int .i64 o.kind, .int .i64 o.dst, .int .i64 o.id.ses, .int .i64 o.id.seq, .int .u64 (o.stamp : Int), .bool o.yes] 43)).heap.size := by
                    obtain ⟨_, _, _, hm⟩ := HI4.out.m
                    exact Nat.le_trans hm.m.hB (by simp)
                  obtain ⟨i0, hi0, hz0, hz1, hz2⟩ := info_parts info_out17
                  have hdb : ds2.length ≤ 100000 := by have := hkH.out; have := h60.out; have := hdl4.out; have := hk2H.out; have := hosl.out; omega
                  clear hlt3 hk3 HI2 hw3
                  go_wp2_with (at_builtin; refine wpList_append_own_at _ rfl _ _ 31 rfl Bb 43 i0 _ 6 48 Tryz.underlying31 hi0 hz0 hz1 hz2 rfl (by decide) (.slice A2 ds2.length kc2) ds2.length (outCells ds2) rfl hown ⟨wk.heap.size, 0, none⟩ 1 1 (outV o) rfl rfl hnews one_cell_out17 (le_maxLen (by omega)) (by omega) hBA ?_; intro v15 w15 HO15 hg15 _ hv15; obtain ⟨A15, k15, rfl⟩ := own_form HO15; have hP := Lib.hid (HI4.out.push hR4.out hg15 HO15 hv15 ⟨hkdH.out, hsd.out⟩); clear HO15 hg15 hv15)
                  have hP2 : Hid (OnceIn W w15 Bb p c g (2 * k + 2) lab1 x' (.slice A15 (ds2.length + 1) k15) (ds2 ++ [o]) ∧ OutRow w15 Bb lab1 (.slice (some ⟨bo, oo, none⟩) os.length kl) os ∧ (ds2 ++ [o]).length ≤ 1000 * k + (k2 + 1)) := ⟨hP.out.1, hP.out.2, by rw [List.length_append, List.length_singleton]; have := hdl4.out; omega⟩
                  go_roundw
                  case rel => exact ⟨k2 + 1, ds2 ++ [o], by have := hk2H.out; omega, by go_num, hP2⟩
                  case measure => have := hk2H.out; simp [intOf]; omega
            · have q4 : (o.kind != 4) = true := by simp [hkd]
              have HI3 : Hid (OnceIn W wj Bb p c g (2 * k + 2) lab1 x' (.slice A2 ds2.length kc2) ds2 ∧ OutRow wj Bb lab1 (.slice (some ⟨bo, oo, none⟩) os.length kl) os ∧ ds2.length ≤ 1000 * k + (k2 + 1)) := ⟨HI2.out.1, HI2.out.2.1, Nat.le_succ_of_le HI2.out.2.2⟩
              clear hkd hlt2 hmem hAl HI2
              go_wp2
              go_roundw
              case rel => exact ⟨k2 + 1, ds2, by have := hk2H.out; omega, by go_num, HI3⟩
              case measure => have := hk2H.out; simp [intOf]; omega
          · obtain rfl : k2 = os.length := by omega
            have HO5 := Lib.hid HI2.out.1
            have hdl5 := Lib.hid HI2.out.2.2
            have hkk := hkH.out
            clear hAl HI2 hlt2 hk2 hS1H
            go_wp2
            go_loopw [13] (fun i wr => ∃ k4 : Nat, k4 ≤ ds2.length ∧ i = .int .i64 k4 ∧ Below wj.heap.size wj wr) (fun i _ => ds2.length - (intOf i).toNat)
            case atStart => exact ⟨0, Nat.zero_le _, rfl, Below.refl _ _⟩
            case round =>
              obtain ⟨k4, hk4, rfl, hw4⟩ := hrel
              obtain ⟨wk, rfl⟩ : ∃ wk : World, wk = wr := ⟨_, rfl⟩
              by_cases hlt4 : k4 < ds2.length
              · obtain ⟨bd, od, d, rfl, ⟨d0, d1, d2, d3, d4, d5⟩, HD⟩ := (hD2.out.later hw4).at' hlt4
                have hdm : d ∈ ds2 := by rw [← HD.out]; exact getD_memO hlt4
                have hDec := Lib.hid (HO5.out.dec hw4 hdm)
                have hki4 : (k4 : Int) < (ds2.length : Int) := by omega
                have hk04 : (0 : Int) ≤ (k4 : Int) := by omega
                have hk4H := Lib.hid hlt4
                have hk4b : k4 < 3000000 := by have := hdl5.out; have := h60.out; have := hosl.out; omega
                clear hdm HD hlt4
                go_wp2_with (go_at_call 13; (with_reducible refine hDec.out.mono ?_); rintro e w5 ⟨rfl, hb5⟩; have y3 := keep hb5 d3; have y4 := keep hb5 d4; have y5 := keep hb5 d5; have hw5 := Lib.hid (keepB hw4 hb5))
                go_roundw
                case rel => exact ⟨k4 + 1, by have := hk4H.out; omega, by go_num, hw5.out⟩
                case measure => have := hk4H.out; simp [intOf]; omega
              · obtain rfl : k4 = ds2.length := by omega
                have HE : Hid (OnceIn W wk Bb p c g (2 * (k + 1)) lab1 x' (.slice A2 ds2.length kc2) ds2 ∧ ds2.length ≤ 1000 * (k + 1)) := ⟨HO5.out.later hw4, by have := hdl5.out; have := hosl.out; omega⟩
                have hk60 : k < 1000 := by have := h60.out; omega
                clear hlt4 hk4 hkk
                go_wp2
                go_roundw
                case rel => exact ⟨k + 1, lab1, x', ds2, by have := hkH.out; omega, by go_num, HE⟩
                case measure => have := hkH.out; simp [intOf]; omega
      · obtain rfl : k = l.length := by omega
        have hend := keepB HB hwb
        clear HI
        go_wp2
        go_ret
        exact ⟨rfl, hend⟩
end Go.Proofs.YtcldpmkhpmlcbaaGreatDoor
