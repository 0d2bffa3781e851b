/- Safe, Get: what is seen of a machine. -/
import Derived.Test.YtcldpmkhpmlcbaaGreatDoorJ17
import Derived.Test.YtcldpmkhpmlcbaaGreatDoorJ12
import Derived.Deep.DeepCutAuto
import Derived.Deep.CutRange
import Derived.Handy
set_option linter.unusedVariables false
set_option linter.unusedSimpArgs false
namespace Go.Proofs.YtcldpmkhpmlcbaaGreatDoor
open Go.RowKit Go.Shelf Go.Maps

set_option maxRecDepth 100000 in
set_option maxHeartbeats 4000000 in
theorem safe17 {w : World} {B p : Nat} {c : Cfg} {g : Int} {lab : Nat → Lab} {x : MachD} {E : MachE} {ov : Value} (h : MachIn w B p c g lab x E ov) (hq : QOK x.q) :
    Calls Tryz.prog 19 #[.pointer (some ⟨p, 0, none⟩)] w fun e w' => e = .returned (.int .u64 (safeQ x.q : Int)) ∧ Below w.heap.size w w' := by
  obtain ⟨_, _, _, c3, _⟩ := h.cs
  obtain ⟨qv, qes, hQ⟩ := h.q
  have hS := Lib.hid (safe15 hQ hq)
  obtain ⟨s, hs⟩ : ∃ s, safeQ x.q = s := ⟨_, rfl⟩
  rw [hs] at hS ⊢
  clear h hQ hs
  go_enter Tryz.func19, Tryz.ntmps19
  go_wp2_with (go_at_call 51; (with_reducible refine hS.out.mono ?_); rintro e w1 ⟨rfl, hb⟩)
  go_ret
  exact ⟨rfl, hb⟩
/-- A value and a number. -/
def Get2Post (w : World) (v : Ver) (e : Ending) (w' : World) : Prop :=
  e = .returned (.tuple #[.agg #[.int .i64 v.val.kind, .int .u64 (v.val.bits : Int), .string v.val.text], .int .u64 (v.num : Int)]) ∧ Below w.heap.size w w'
theorem Blk3.new {W w1 : World} {a b c : Value} {t : TypeId} (hb : Below (W.alloc (.cells #[a, b, c] t)).heap.size (W.alloc (.cells #[a, b, c] t)) w1) : Blk3 w1 W.heap.size a b c := Blk3.later ⟨t, heap_alloc_new W _⟩ hb
theorem Blk3.set17 {w : World} {g : Nat} {a b c : Value} (h : Blk3 w g a b c) (a' b' c' : Value) : Blk3 (((w.setCell ⟨g, 0, none⟩ a').setCell ⟨g, 1, none⟩ b').setCell ⟨g, 2, none⟩ c') g a' b' c' := by
  obtain ⟨t, h⟩ := h
  exact ⟨t, set3_cells h _ _ _⟩
theorem set3_below {n : Nat} {w W : World} {g : Nat} (h : Below n w W) (hg : n ≤ g) (a b c : Value) : Below n w (((W.setCell ⟨g, 0, none⟩ a).setCell ⟨g, 1, none⟩ b).setCell ⟨g, 2, none⟩ c) :=
  ((h.setCell hg _).setCell hg _).setCell hg _
theorem keep1B {w w' : World} {a : Addr} {v : Value} (h : w.cell? a = some v) (hb : Below w.heap.size w w') : w'.cell? a = some v ∧ Below w.heap.size w w' := ⟨keep hb h, hb⟩
theorem keep3B {w w' : World} {a b c : Addr} {u v x : Value} (h0 : w.cell? a = some u) (h1 : w.cell? b = some v) (h2 : w.cell? c = some x) (hb : Below w.heap.size w w') : w'.cell? a = some u ∧ w'.cell? b = some v ∧ w'.cell? c = some x ∧ Below w.heap.size w w' := ⟨keep hb h0, keep hb h1, keep hb h2, hb⟩
def getG (c : Cfg) (g : Int) (x : MachD) (key : ByteArray) : Ver := if homeZ c key = g then getV x.s key x.s.last else noVer
set_option maxRecDepth 100000 in
set_option maxHeartbeats 4000000 in
theorem get17 {w : World} {B p : Nat} {c : Cfg} {g : Int} {lab : Nat → Lab} {x : MachD} {E : MachE} {ov : Value} (h : MachIn w B p c g lab x E ov) {key : ByteArray} (hk : key.size ≤ maxLen) (hn : (getK x.s.ks key).length ≤ 900000) :
    Calls Tryz.prog 23 #[.pointer (some ⟨p, 0, none⟩), .string key] w (Get2Post w (getG c g x key)) := by
  obtain ⟨W, eW, HB, hsz, hrow⟩ := new3 w (.int .i64 0) (.int .u64 0) (.string { data := #[] }) 66
  have hM := Lib.hid (h.later HB)
  obtain ⟨c0, c1, c2, _, c4, _⟩ := hM.out.cs
  have HR := Lib.hid hrow
  have HR3 : Hid (Blk3 W w.heap.size (.int .i64 0) (.int .u64 0) (.string { data := #[] })) := ⟨_, hrow⟩
  obtain ⟨y0, y1, y2, f0, f1, f2⟩ := cells3 hrow
  obtain ⟨z, hz⟩ : ∃ z, homeZ c key = z := ⟨_, rfl⟩
  have hHo : Hid (∀ wz, Below W.heap.size W wz → Calls Tryz.prog 52 #[.agg #[.slice E.A c.reps.length E.ca, .slice E.A' c.bnds.length E.cb], .string key] wz fun e w' => e = .returned (.int .i64 z) ∧ Below wz.heap.size wz w') := fun wz hb => by
    have := home_any c key E.A E.A' E.ca E.cb wz ((hM.out.later hb).cfg)
    rw [hz] at this
    exact this
  by_cases hg : z = g
  · have HV : Hid (getG c g x key = getV x.s key x.s.last) := by show _ = _; rw [getG, hz, if_pos hg]
    obtain ⟨v, hv⟩ : ∃ v, getV x.s key x.s.last = v := ⟨_, rfl⟩
    have hLa : Hid (∀ wz, Below W.heap.size W wz → Calls Tryz.prog 58 #[.pointer (some ⟨E.sp, 0, none⟩)] wz fun e w' => e = .returned (.int .u64 (x.s.last : Int)) ∧ wz = w') := fun wz hb => last14_any ((hM.out.later hb).s)
    have hGe : Hid (∀ wz, Below W.heap.size W wz → Calls Tryz.prog 53 #[.pointer (some ⟨E.sp, 0, none⟩), .string key, .int .u64 (x.s.last : Int)] wz (GetPost wz v (oldE x.s x.s.last))) := fun wz hb => by
      have := get14_any (hM.out.later hb).s key hk x.s.last hn
      rw [hv] at this
      exact this
    obtain ⟨ol, hol⟩ : ∃ ol, oldE x.s x.s.last = ol := ⟨_, rfl⟩
    obtain ⟨la, hla⟩ : ∃ la, x.s.last = la := ⟨_, rfl⟩
    rw [hv] at HV
    rw [hol, hla] at hGe
    rw [hla] at hLa
    have hq : (z != g) = false := by simp [hg]
    clear hv hol hla hg hz hrow h
    go_enter Tryz.func23, Tryz.ntmps23
    go_wp2
    go_region_held3 (fun w' => w'.cell? ⟨p, 0, none⟩ = some (.slice E.A c.reps.length E.ca) ∧ w'.cell? ⟨p, 1, none⟩ = some (.slice E.A' c.bnds.length E.cb) ∧ w'.cell? ⟨p, 2, none⟩ = some (.int .i64 g))
      (first | exact ⟨c0, c1, c2⟩ | exact ⟨keep hb1 c0, keep hb1 c1, keep hb1 c2⟩ | fail)
      ((go_at_call 52; (with_reducible refine (hHo.out _ (below_drew (Below.refl W.heap.size W))).mono ?_); rintro e w1 ⟨rfl, hb⟩; have hb1 : Below W.heap.size W w1 := keepB (below_drew (Below.refl W.heap.size W)) hb))
    obtain ⟨wb, rfl⟩ : ∃ wb : World, wb = w1 := ⟨_, rfl⟩
    have d4 := keep hb1 c4
    have HR1 := Lib.hid (HR3.out.later hb1)
    replace hLa : Hid (∀ wz, Below wb.heap.size wb wz → Calls Tryz.prog 58 #[.pointer (some ⟨E.sp, 0, none⟩)] wz fun e w' => e = .returned (.int .u64 (la : Int)) ∧ wz = w') := fun wz hb => hLa.out wz (keepB hb1 hb)
    replace hGe : Hid (∀ wz, Below wb.heap.size wb wz → Calls Tryz.prog 53 #[.pointer (some ⟨E.sp, 0, none⟩), .string key, .int .u64 (la : Int)] wz (GetPost wz v ol)) := fun wz hb => hGe.out wz (keepB hb1 hb)
    have HBb := Lib.hid (keepB HB hb1)
    clear hM c0 c1 c2 c4 hHo hb1 hb eW HB HR HR3 y0 y1 y2 f0 f1 f2
    go_upto_region 3 with fail
    go_cut [6, 7] (fun s6 s7 wx => ∃ rb, s6 = .pointer (some ⟨rb, 0, none⟩) ∧ s7 = .int .u64 (v.num : Int) ∧ Blk3 wx rb (.int .i64 v.val.kind) (.int .u64 (v.val.bits : Int)) (.string v.val.text) ∧ Below wb.heap.size wb wx)
    case first =>
      go_region_held3 (fun w' => w'.cell? ⟨p, 4, none⟩ = some (.pointer (some ⟨E.sp, 0, none⟩)) ∧ Below wb.heap.size wb w')
        (with_reducible refine keep1B d4 ?_; first | (with_reducible exact below_drew (Below.refl _ _)) | go_grown)
        (first
          | (go_at_call 58; (with_reducible refine (hLa.out _ ‹_ ∧ Below wb.heap.size wb _›.2).mono ?_); rintro e w3 ⟨rfl, rfl⟩)
          | (go_at_call 53; (with_reducible refine (hGe.out _ ‹_ ∧ Below wb.heap.size wb _›.2).mono ?_); rintro e w4 ⟨rfl, hb'⟩; have hb4 : Below wb.heap.size wb w4 := keepB ‹_ ∧ Below wb.heap.size wb _›.2 hb'; have hz4 := hb4.size; (first | have Y := Blk3.newd hb' | have Y := Blk3.new hb' | skip); (try (obtain ⟨y0, y1, y2, f0, f1, f2⟩ := Y.facts))))
      all_goals (go_wp2_with fail; go_meet)
      · exact ⟨_, rfl, rfl, ⟨_, heap_alloc_new w4 _⟩, hb4.alloc hz4 _⟩
      all_goals exact ⟨_, rfl, rfl, Y.set17 _ _ _, set3_below hb4 (Nat.le_refl _) _ _ _⟩
    case rest =>
      obtain ⟨rb, rfl, rfl, Y, hbc⟩ := hcut
      obtain ⟨w9, rfl⟩ : ∃ wq : World, wq = wc := ⟨_, rfl⟩
      have HR9 := HR1.out.later hbc
      obtain ⟨x0, x1, x2, _⟩ := Y.facts
      obtain ⟨y0, y1, y2, f0, f1, f2⟩ := HR9.facts
      replace hbc := Lib.hid hbc
      clear hLa hGe d4 HR1 Y
      go_wp2
      obtain ⟨z0, z1, z2, _⟩ := (HR9.set17 (.int .i64 v.val.kind) (.int .u64 (v.val.bits : Int)) (.string v.val.text)).facts
      refine bodyPost_ret (v := .tuple #[.agg #[.int .i64 v.val.kind, .int .u64 (v.val.bits : Int), .string v.val.text], .int .u64 (v.num : Int)]) (by simp [results, Tryz.results23, go_sem, z0, z1, z2]) rfl ⟨?_, ?_⟩
      · rw [HV.out]
      · exact set3_below (keepB HBb.out hbc.out) (Nat.le_refl _) _ _ _
  · have HV : Hid (getG c g x key = noVer) := by show _ = _; rw [getG, hz, if_neg hg]
    have hq : (z != g) = true := by simp [hg]
    clear hg hz hrow h hM hn hk
    go_enter Tryz.func23, Tryz.ntmps23
    go_wp2
    go_region_held3 (fun w' => w'.cell? ⟨p, 0, none⟩ = some (.slice E.A c.reps.length E.ca) ∧ w'.cell? ⟨p, 1, none⟩ = some (.slice E.A' c.bnds.length E.cb) ∧ w'.cell? ⟨p, 2, none⟩ = some (.int .i64 g))
      (first | exact ⟨c0, c1, c2⟩ | exact ⟨keep hb1 c0, keep hb1 c1, keep hb1 c2⟩ | fail)
      ((go_at_call 52; (with_reducible refine (hHo.out _ (below_drew (Below.refl W.heap.size W))).mono ?_); rintro e w1 ⟨rfl, hb⟩; have hb1 : Below W.heap.size W w1 := keepB (below_drew (Below.refl W.heap.size W)) hb))
    have HR1 := HR3.out.later hb1
    obtain ⟨y0, y1, y2, f0, f1, f2⟩ := HR1.facts
    clear c0 c1 c2 c4 hHo
    go_wp2
    obtain ⟨z0, z1, z2, _⟩ := (HR1.set17 (.int .i64 0) (.int .u64 0) (.string { data := #[] })).facts
    refine bodyPost_ret (v := .tuple #[.agg #[.int .i64 0, .int .u64 0, .string { data := #[] }], .int .u64 0]) (by simp [results, Tryz.results23, go_sem, z0, z1, z2]) rfl ⟨?_, ?_⟩
    · rw [HV.out]; rfl
    · exact set3_below (keepB HB hb1) (Nat.le_refl _) _ _ _
end Go.Proofs.YtcldpmkhpmlcbaaGreatDoor
