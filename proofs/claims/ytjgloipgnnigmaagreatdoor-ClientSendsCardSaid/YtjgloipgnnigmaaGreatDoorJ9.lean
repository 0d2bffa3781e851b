/- The client's sent: what an ask sends. -/
import Derived.Test.YtjgloipgnnigmaaGreatDoorJ8
import Derived.Lib.QuietBelow
import Derived.Test.YtjgloipgnnigmaaGreatDoorJ4
import Derived.Deep.RegionLaw
import Derived.Deep.AppendLies
import Derived.Test.YtjgloipgnnigmaaGreatDoorJ7
import Derived.Test.YtjgloipgnnigmaaGreatDoorJ6
import Derived.Test.YtjgloipgnnigmaaGreatDoorTxF08
import Derived.Test.YtjgloipgnnigmaaGreatDoorJ5
import Derived.Test.YtjgloipgnnigmaaGreatDoorJ2
set_option linter.unusedVariables false
set_option linter.unusedSimpArgs false
namespace Go.Proofs.YtjgloipgnnigmaaGreatDoor
open Go.RowKit Go.Shelf Go.Sort

def sentX (c : Cfg) (x : CliD) (a : AskD) : SndX := ⟨placeZ c a.g ((x.turn % repN c a.g : Nat) : Int), if a.key = noStr then safeM a.n else readM a.n a.key a.st⟩
theorem sentX_is (c : Cfg) (x : CliD) (a : AskD) : SndIs (sentX c x a) (sentD c x a) := by
  rw [sentX, sentD]
  split
  · exact .safe _ _
  · exact .read _ _ _ _
theorem sentX_lies (c : Cfg) (x : CliD) (a : AskD) (w : World) (hk : a.key.size ≤ 9223372036854775807) : MsgAt w (sentX c x a).m := by
  rw [sentX]
  split
  · exact safe_lies _ _
  · exact read_lies _ _ _ _ hk
theorem noStr_list : noStr.toList = [] := by rw [ByteArray.toList_eq]; rfl
theorem empty_dec (s : ByteArray) : s.toList.isEmpty = decide (s = noStr) := by
  by_cases h : s = noStr
  · subst h; rw [noStr_list]; simp
  · have : s.toList ≠ [] := fun e => h (bytes_ext (by rw [e, noStr_list]))
    simp [h, this]
section
variable {w : World} {B p : Nat} {K : CliK} {x : CliD} {O : Nat → Prop}
def AggPost (w : World) (vs : Array Value) (e : Ending) (w' : World) : Prop := e = .returned (.agg vs) ∧ Below w.heap.size w w'
set_option maxRecDepth 100000 in
set_option maxHeartbeats 2000000 in
theorem sent_any (h : CliAt w B p K x O) (hC : CfgAt w K.c K.A K.B) (hf : formedB K.c = true) (hca : K.c.reps.length ≤ K.ca) (ht : x.turn < 60) (a : AskD) (hg : a.g < K.c.reps.length) :
    Calls Tryz.prog 54 #[.pointer (some ⟨p, 0, none⟩), .agg #[.int .i64 (a.n : Int), .int .i64 (a.g : Int), .string a.key, .int .u64 (a.st : Int)]] w (AggPost w (sentX K.c x a).vs) := by
  obtain ⟨W, eW, HB0, d0, d1, d2, d3⟩ := box4 w (.int .i64 (a.n : Int)) (.int .i64 (a.g : Int)) (.string a.key) (.int .u64 (a.st : Int)) 103
  obtain ⟨wb, ewb, hbb, hszb, hrb⟩ := boxed W #[.int .i64 0, .int .i64 0, .int .u32 0, .int .i64 0, .int .i64 0, .bool false, .int .u32 0, .int .i64 0, .int .i64 0, .int .i64 0, .int .i64 0, .slice none 0 0, .slice none 0 0, .int .i64 0, .int .i64 0, .int .i64 0, .int .u64 0, .bool false, .int .i64 0, .int .i64 0, .slice none 0 0, .slice none 0 0, .int .i64 0, .int .i64 0, .int .i64 0, .int .u64 0, .bool false, .int .i64 0, .string ⟨#[]⟩, .int .u64 0, .int .i64 0, .int .u64 0, .string ⟨#[]⟩, .int .i64 0, .slice none 0 0] 81
  have HB := keepB HB0 hbb
  replace d0 := keep hbb d0
  replace d1 := keep hbb d1
  replace d2 := keep hbb d2
  replace d3 := keep hbb d3
  replace h := h.later HB
  replace hC := hC.later HB
  obtain ⟨vr, vw, va, vk, h⟩ := h
  obtain ⟨c0, c1, _, _, _, _, c6, _⟩ := h.cs
  obtain ⟨rb, roff, r, eA, rc, RX⟩ := IntsAt.at' hC.ints hg
  have hr := formed_range hf hg
  rw [RX.out] at hr
  have hrep : repN K.c a.g = r.toNat := by rw [repN, RX.out]
  have hm : Int.tmod (x.turn : Int) r = ((x.turn % repN K.c a.g : Nat) : Int) := by
    rw [hrep]
    obtain ⟨q, rfl⟩ := Int.eq_ofNat_of_zero_le (show 0 ≤ r by omega)
    simp
    rfl
  have hl4 := (formed_len hf).2.1
  have HE : Hid (sentX K.c x a = ⟨placeZ K.c a.g ((x.turn % repN K.c a.g : Nat) : Int), if a.key = noStr then safeM a.n else readM a.n a.key a.st⟩) := rfl
  obtain ⟨mt, hmt⟩ : ∃ mt : Int, Hid (((x.turn % repN K.c a.g : Nat) : Int) = mt) := ⟨_, rfl⟩
  rw [hmt.out] at hm HE
  obtain ⟨pl, hpl⟩ : ∃ pl, Hid (placeZ K.c a.g mt = pl) := ⟨_, rfl⟩
  rw [hpl.out] at HE
  have HPl : Hid (∀ (d : Nat) (os : Array Obj), Calls Tryz.prog 87 #[K.cv, .int .i64 (a.g : Int), .int .i64 mt] (grow (redrawn wb d) os) fun e w'' => e = .returned (.int .i64 pl) ∧ ∃ p : Regrown, w'' = grow (redrawn wb p.d) p.os) := fun d os => Calls.regrown_of (by
    have := place_any K.c a.g mt K.A K.B K.ca K.cb (grow (redrawn wb d) os) (hC.later (below_regrown wb d os)) hca
    rw [hpl.out] at this
    exact this)
  have hgi : (a.g : Int) < (K.c.reps.length : Int) := by omega
  have hrz : (r == 0) = false := by rw [beq_eq_false_iff_ne]; omega
  have hrz2 : ¬ (r = 0) := by omega
  have hmw : IntKind.i64.wrap mt = mt := by
    have hb1 : (x.turn % repN K.c a.g : Nat) < 60 := Nat.lt_of_le_of_lt (Nat.mod_le _ _) ht
    have := hmt.out
    exact IntWalk.i64_in _ (by omega)
  have cP : ∀ d os, Calls Tryz.prog 87 #[.agg #[.slice (some ⟨rb, roff, none⟩) K.c.reps.length K.ca, .slice K.B K.c.bnds.length K.cb], .int .i64 (a.g : Int), .int .i64 mt] (grow (redrawn wb d) os) fun e w'' => e = .returned (.int .i64 pl) ∧ ∃ p : Regrown, w'' = grow (redrawn wb p.d) p.os := by
    rw [← eA]; exact HPl.out
  rw [eA] at c0
  have k0 := cell_regrown c0
  have k1 := cell_regrown c1
  have k2 := cell_regrown c6
  have k3 := cell_regrown d1
  have k4 := cell_regrown rc
  replace hrb := Lib.hid hrb
  replace HPl := trivial
  clear h hC hr hrep RX eA hl4 hszb
  go_enter Tryz.func54, Tryz.ntmps54
  go_wp2
  refine wp_region_quiet_below (by kernel_rfl) (by kernel_rfl) ?_
  repeat (go_big_quiet_step (first | exact cP _ _))
  refine wpQuiet_nil ?_
  intro _ hw'
  obtain ⟨⟨dq, osq⟩, hw''⟩ := hw'
  subst hw''
  have HQ := below_regrown wb dq osq
  obtain ⟨wq, hwq⟩ : ∃ wq, grow (redrawn wb dq) osq = wq := ⟨_, rfl⟩
  rw [hwq] at HQ ⊢
  replace d0 := keep HQ d0
  replace d2 := keep HQ d2
  replace d3 := keep HQ d3
  have hq := Lib.hid (obj_keep hrb.out HQ)
  clear k0 k1 k2 k3 k4 cP hwq
  have q1 := empty_dec a.key
  by_cases he : a.key = noStr
  · have HS : Hid (sentX K.c x a = ⟨pl, safeM a.n⟩) := by show _ = _; rw [HE.out, if_pos he]
    rw [decide_eq_true he] at q1
    have q2 : a.key.toList = [] := by rw [he, noStr_list]
    clear he
    go_wp2_with (refine wpList_store_row rfl 81 _ _ rfl W.heap.size (SndX.vs ⟨pl, safeM a.n⟩) rfl rfl 81 _ hq.out info_snd rfl (snd_one _) ?_)
    refine bodyPost_ret (v := .agg (SndX.vs ⟨pl, safeM a.n⟩)) (results_cell_row rfl _ _ W.heap.size _ (SndX.vs ⟨pl, safeM a.n⟩) _ _ rfl (setRow_heap _ _ _ _ _ _ hq.out) Tryz.underlying81 rfl info_snd) rfl ⟨by rw [HS.out], below_setRow (keepB HB HQ) HB0.size _⟩
  · have HS : Hid (sentX K.c x a = ⟨pl, readM a.n a.key a.st⟩) := by show _ = _; rw [HE.out, if_neg he]
    rw [decide_eq_false he] at q1
    have q2 : ¬ (a.key.toList = []) := fun e => he (bytes_ext (by rw [e, noStr_list]))
    clear he
    go_wp2_with (refine wpList_store_row rfl 81 _ _ rfl W.heap.size (SndX.vs ⟨pl, readM a.n a.key a.st⟩) rfl rfl 81 _ hq.out info_snd rfl (snd_one _) ?_)
    refine bodyPost_ret (v := .agg (SndX.vs ⟨pl, readM a.n a.key a.st⟩)) (results_cell_row rfl _ _ W.heap.size _ (SndX.vs ⟨pl, readM a.n a.key a.st⟩) _ _ rfl (setRow_heap _ _ _ _ _ _ hq.out) Tryz.underlying81 rfl info_snd) rfl ⟨by rw [HS.out], below_setRow (keepB HB HQ) HB0.size _⟩
end
end Go.Proofs.YtjgloipgnnigmaaGreatDoor
/- The client's cell of a row, behind an append to that row. -/
namespace Go.Proofs.YtjgloipgnnigmaaGreatDoor
open Go.RowKit
section
variable {w : World} {B p : Nat} {K : CliK} {x : CliD} {vr vw va vk : Value} {O : Nat → Prop}
theorem CliIn.cellr (h : CliIn w B p K x vr vw va vk O) {w1 : World} (hg : w.grownBy w1 vr.ownBlock) : w1.cell? ⟨p, 8, none⟩ = some vr ∧ w1.frozen? ⟨p, 8, none⟩ = false := by
  have hblk : w1.heap[p]? = some _ := (Out.of_grown (O := fun k => vr.ownBlock = some k) hg (fun k e => e)).obj h.blk (fun e => (h.mir p e).2 rfl)
  exact ⟨by rw [cell_of_row w1 p _ _ _ _ hblk]; rfl, frozen_of_row w1 p _ _ _ hblk⟩
theorem CliIn.cellw (h : CliIn w B p K x vr vw va vk O) {w1 : World} (hg : w.grownBy w1 vw.ownBlock) : w1.cell? ⟨p, 9, none⟩ = some vw ∧ w1.frozen? ⟨p, 9, none⟩ = false := by
  have hblk : w1.heap[p]? = some _ := (Out.of_grown (O := fun k => vw.ownBlock = some k) hg (fun k e => e)).obj h.blk (fun e => (h.miw p e).2 rfl)
  exact ⟨by rw [cell_of_row w1 p _ _ _ _ hblk]; rfl, frozen_of_row w1 p _ _ _ hblk⟩
theorem CliIn.cella (h : CliIn w B p K x vr vw va vk O) {w1 : World} (hg : w.grownBy w1 va.ownBlock) : w1.cell? ⟨p, 10, none⟩ = some va ∧ w1.frozen? ⟨p, 10, none⟩ = false := by
  have hblk : w1.heap[p]? = some _ := (Out.of_grown (O := fun k => va.ownBlock = some k) hg (fun k e => e)).obj h.blk (fun e => (h.mia p e).2 rfl)
  exact ⟨by rw [cell_of_row w1 p _ _ _ _ hblk]; rfl, frozen_of_row w1 p _ _ _ hblk⟩
theorem CliIn.cellk (h : CliIn w B p K x vr vw va vk O) {w1 : World} (hg : w.grownBy w1 vk.ownBlock) : w1.cell? ⟨p, 11, none⟩ = some vk ∧ w1.frozen? ⟨p, 11, none⟩ = false := by
  have hblk : w1.heap[p]? = some _ := (Out.of_grown (O := fun k => vk.ownBlock = some k) hg (fun k e => e)).obj h.blk (fun e => (h.mik p e).2 rfl)
  exact ⟨by rw [cell_of_row w1 p _ _ _ _ hblk]; rfl, frozen_of_row w1 p _ _ _ hblk⟩
end
end Go.Proofs.YtjgloipgnnigmaaGreatDoor
/- The client's want: it asks for something. -/
namespace Go.Proofs.YtjgloipgnnigmaaGreatDoor
open Go.RowKit Go.Shelf Go.Sort

theorem one_cell_ask {a b : Int} {s : ByteArray} {t : Int} : ∀ u ∈ [Value.int .i64 a, .int .i64 b, .string s, .int .u64 t], u.oneCell' = true := fun u hu => by
  simp at hu; rcases hu with rfl | rfl | rfl | rfl <;> rfl
theorem out_setRow (w : World) (g : Nat) (cs : Array Value) : Out (fun k => k = g) w (w.setRow g cs) :=
  ⟨rfl, rfl, rfl, by simp, fun k _ hk => setRow_other w g k cs hk⟩
theorem own_or {u v : Value} {n : Nat} (h : u.ownBlock = v.ownBlock ∨ u.ownBlock = some n) : ∀ g, u.ownBlock = some g → v.ownBlock = some g ∨ n ≤ g := fun g hg =>
  h.elim (fun e => .inl (by rw [← e]; exact hg)) (fun e => .inr (by rw [hg] at e; cases e; exact Nat.le_refl _))
/-- A client whose row of keys is told. -/
def CliV (w : World) (B p : Nat) (K : CliK) (x : CliD) (vk : Value) (O : Nat → Prop) : Prop := ∃ vr vw va, CliIn w B p K x vr vw va vk O
def WantPost (w : World) (B p : Nat) (K : CliK) (vk : Value) (O : Nat → Prop) (v : Value) (x : CliD) (e : Ending) (w' : World) : Prop := e = .returned v ∧ CliV w' B p K x vk (ext O w w') ∧ Out O w w'
section
variable {w w' : World} {B p : Nat} {K : CliK} {x : CliD} {vk : Value} {O O' : Nat → Prop}
theorem CliV.toAt (h : CliV w B p K x vk O) : CliAt w B p K x O := by
  obtain ⟨vr, vw, va, h⟩ := h
  exact ⟨_, _, _, _, h⟩
theorem CliV.out (h : CliV w B p K x vk O) (hw : Out O' w w') (hd : ∀ k, O k → ¬ O' k) : CliV w' B p K x vk O := by
  obtain ⟨vr, vw, va, h⟩ := h
  exact ⟨vr, vw, va, h.out hw hd⟩
theorem CliV.later (h : CliV w B p K x vk O) (hb : Below w.heap.size w w') : CliV w' B p K x vk O := h.out (O' := fun _ => False) (Out.of_below hb) (fun _ _ h => h)
theorem CliV.keys {A : Option Addr} {n c : Nat} (h : CliV w B p K x (.slice A n c) O) : StrsAt w A x.keys ∧ n = x.keys.length := by
  obtain ⟨vr, vw, va, h⟩ := h
  obtain ⟨A', c', e, _, hs⟩ := own_strs h.rowk
  cases e
  exact ⟨hs, rfl⟩
end
section
variable {w : World} {B p : Nat} {K : CliK} {x : CliD} {O : Nat → Prop}
set_option maxRecDepth 100000 in
set_option maxHeartbeats 4000000 in
theorem want_v {vk : Value} (h : CliV w B p K x vk O) (hB : B ≤ w.heap.size) (hC : ∀ w', Below B w w' → CfgAt w' K.c K.A K.B) (hf : formedB K.c = true) (hca : K.c.reps.length ≤ K.ca) (ht : x.turn < 60) (g : Nat) (key : ByteArray) (st : Nat) (hg : g < K.c.reps.length) (hn : x.num ≤ 1000000) (ha : x.asks.length ≤ 100) :
    Calls Tryz.prog 39 #[.pointer (some ⟨p, 0, none⟩), .int .i64 (g : Int), .string key, .int .u64 (st : Int)] w (WantPost w B p K vk O (.agg (sentX K.c (wantD x g key st) (askD x g key st)).vs) (wantD x g key st)) := by
  obtain ⟨vr, vw, va, h⟩ := h
  obtain ⟨W, eW, HB, hszW, hrW⟩ := boxed w #[.int .i64 0, .int .i64 0, .int .u32 0, .int .i64 0, .int .i64 0, .bool false, .int .u32 0, .int .i64 0, .int .i64 0, .int .i64 0, .int .i64 0, .slice none 0 0, .slice none 0 0, .int .i64 0, .int .i64 0, .int .i64 0, .int .u64 0, .bool false, .int .i64 0, .int .i64 0, .slice none 0 0, .slice none 0 0, .int .i64 0, .int .i64 0, .int .i64 0, .int .u64 0, .bool false, .int .i64 0, .string ⟨#[]⟩, .int .u64 0, .int .i64 0, .int .u64 0, .string ⟨#[]⟩, .int .i64 0, .slice none 0 0] 81
  have hW := h.later HB
  obtain ⟨_, _, _, _, _, c5, _⟩ := hW.cs
  have f5 := hW.fz 5
  have h1 := hW.s5 (x.num + 1)
  obtain ⟨w1, ew1⟩ : ∃ w1, W.setCell ⟨p, 5, none⟩ (.int .i64 ((x.num : Int) + 1)) = w1 := ⟨_, rfl⟩
  have e1 : W.setCell ⟨p, 5, none⟩ (.int .i64 ((x.num + 1 : Nat) : Int)) = w1 := by rw [← ew1]; rfl
  rw [e1] at h1
  have ho1 : Out O W w1 := by rw [← ew1]; exact out_p hW.hp (Out.refl _ _)
  obtain ⟨_, _, _, _, _, c5b, _⟩ := h1.cs
  have c5c : w1.cell? ⟨p, 5, none⟩ = some (.int .i64 ((x.num : Int) + 1)) := c5b
  have hsz1 : w1.heap.size = W.heap.size := by rw [← ew1]; simp [World.setCell]
  obtain ⟨w2, ew2, hb2, hs2, hr2⟩ := boxed w1 #[.int .i64 ((x.num : Int) + 1), .int .i64 (g : Int), .string key, .int .u64 (st : Int)] 103
  have h2 := h1.later hb2
  have d0 : w2.cell? ⟨w1.heap.size, 0, none⟩ = some (.int .i64 ((x.num : Int) + 1)) := by rw [cell_of_row w2 _ _ _ _ _ hr2]; rfl
  have d1 : w2.cell? ⟨w1.heap.size, 1, none⟩ = some (.int .i64 (g : Int)) := by rw [cell_of_row w2 _ _ _ _ _ hr2]; rfl
  have d2 : w2.cell? ⟨w1.heap.size, 2, none⟩ = some (.string key) := by rw [cell_of_row w2 _ _ _ _ _ hr2]; rfl
  have d3 : w2.cell? ⟨w1.heap.size, 3, none⟩ = some (.int .u64 (st : Int)) := by rw [cell_of_row w2 _ _ _ _ _ hr2]; rfl
  obtain ⟨_, _, _, _, _, _, _, _, _, _, c10, _⟩ := h2.cs
  obtain ⟨A10, cap10, e10, hcap, hA10, _⟩ := own_asks h2.rowa
  simp only at e10 hcap
  subst e10
  obtain ⟨i0, hi, hz0, hz1, hz2⟩ := info_parts info_ask
  have hw1 : IntKind.i64.wrap ((x.num : Int) + 1) = (x.num : Int) + 1 := IntWalk.i64_in _ (by omega)
  have hBW := HB.size
  have hBB : B ≤ w2.heap.size := by have := hb2.size; omega
  have c10b := keep (below1 w2 (.cells #[.int .i64 ((x.num : Int) + 1), .int .i64 (g : Int), .string key, .int .u64 (st : Int)] 103)) c10
  replace hsz1 := Lib.hid hsz1
  have H2 := Lib.hid h2
  have HRW := Lib.hid hrW
  have HO1 := Lib.hid ho1
  replace hs2 := Lib.hid hs2
  replace hszW := Lib.hid hszW
  replace hC := Lib.hid hC
  replace HB := Lib.hid HB
  replace h := Lib.hid h
  have na : (askCells x.asks).length = x.asks.length * 4 := askCells_len _
  replace na := Lib.hid na
  have nO : Hid (¬ O w1.heap.size) := fun e => by have := (h.out.lt _ e).2; have := hsz1.out; omega
  have nR : Hid (¬ O w.heap.size) := fun e => by have := (h.out.lt _ e).2; omega
  have HOw : Hid (Out O w w2) := ((Out.of_below HB.out).trans' ho1).trans' (Out.of_below hb2)
  have HOW : Hid (Out O W w2) := ho1.trans' (Out.of_below hb2)
  have HLO : Hid (∀ k, O k → B ≤ k) := fun k hk => (h.out.lt k hk).1
  obtain ⟨sv, hsv⟩ : ∃ sv, Hid ((sentX K.c (wantD x g key st) (askD x g key st)).vs = sv) := ⟨_, rfl⟩
  have hsv1 : Hid (sv.all (·.oneCell') = true ∧ sv.size = 35) := by show _ ∧ _; rw [← hsv.out]; exact ⟨snd_one _, snd_size _⟩
  have HS : Hid (∀ wz O', CliAt wz B p K (wantD x g key st) O' → CfgAt wz K.c K.A K.B → Calls Tryz.prog 54 #[.pointer (some ⟨p, 0, none⟩), .agg #[.int .i64 ((x.num : Int) + 1), .int .i64 (g : Int), .string key, .int .u64 (st : Int)]] wz (AggPost wz sv)) := fun wz O' a b => by
    rw [← hsv.out]
    exact sent_any a b hf hca ht (askD x g key st) hg
  rw [hsv.out]
  clear h1 h2 hW hrW hr2 ho1 c5b hcap hA10 e1
  go_enter Tryz.func39, Tryz.ntmps39
  go_wp2
  go_region_law (first
    | (refine ready_append_own_at rfl _ _ 93 rfl B 103 i0 _ 4 40 Tryz.underlying93 hi hz0 hz1 hz2 rfl (by decide) (.slice A10 x.asks.length cap10) x.asks.length (askCells x.asks) rfl (own_keep H2.out.rowa (below_drew (below1 _ _))) ⟨w2.heap.size, 0, none⟩ 1 1 [.int .i64 ((x.num : Int) + 1), .int .i64 (g : Int), .string key, .int .u64 (st : Int)] rfl rfl (World.news_of_block (heap_alloc_new w2 _)) one_cell_ask (le_maxLen (by omega)) (by omega) (Nat.le_trans hBB (below1 w2 _).size) ?_; intro v15 w15 HO15 hg15 hv15; obtain ⟨A15, c15, rfl⟩ := own_form HO15; have hKa := H2.out.later (below_drew (below1 w2 (.cells #[.int .i64 ((x.num : Int) + 1), .int .i64 (g : Int), .string key, .int .u64 (st : Int)] 103))); have hc15 := (hKa.cella hg15).1; have hf15 := (hKa.cella hg15).2))
  all_goals
    obtain ⟨wF, ewF⟩ : ∃ wF, w15.setCell ⟨p, 10, none⟩ (.slice A15 (x.asks.length + 1) c15) = wF := ⟨_, rfl⟩
    have hO15 : w15.ownsRow B 103 4 (.slice A15 (x.asks.length + 1) c15) (x.asks ++ [askD x g key st]).length (askCells (x.asks ++ [askD x g key st])) := by
      rw [askCells_snoc, List.length_append]; exact HO15
    have hK15 := hKa.growa (Nat.le_trans hBB (below_drew (below1 w2 _)).size) hg15 hO15 (own_or hv15)
    have ho15 : Out O w2 wF := by
      rw [← ewF]
      exact out_p H2.out.hp ((Out.of_below (below_drew (below1 _ _))).trans' (Out.of_grown hg15 (fun k e => (hKa.mia k e).1)))
    rw [ewF] at hK15
    replace d0 := ho15.cell d0 nO.out
    replace d1 := ho15.cell d1 nO.out
    replace d2 := ho15.cell d2 nO.out
    replace d3 := ho15.cell d3 nO.out
    have hRF := Lib.hid ((HOW.out.trans' ho15).obj HRW.out nR.out)
    have hoF := Lib.hid (HOw.out.trans' ho15)
    have hCF := Lib.hid (hC.out wF (hoF.out.below hB HLO.out))
    have hAF := Lib.hid hK15
    have hsz15 := Lib.hid hg15.size
    clear hK15 hO15 ho15 hKa hc15 hf15 hg15 hv15 HO15
    go_wp2_with (first
      | (go_at_call 54; refine (HS.out _ _ ⟨_, _, _, _, hAF.out⟩ hCF.out).mono ?_; rintro e wq ⟨rfl, hbq⟩)
      | (refine wpList_store_row rfl 81 _ _ rfl w.heap.size sv rfl rfl 81 _ (obj_keep hRF.out hbq) (by rw [info_snd, hsv1.out.2]) (by rw [hsv1.out.2]; rfl) hsv1.out.1 ?_))
    refine bodyPost_ret (v := .agg sv) (results_cell_row rfl _ _ w.heap.size _ sv _ _ rfl (setRow_heap _ _ _ _ _ _ (obj_keep hRF.out hbq)) Tryz.underlying81 rfl (by rw [info_snd, hsv1.out.2])) rfl ⟨rfl, ?_, ?_⟩
    · have hA2 := (hAF.out.later hbq).out (out_setRow wq w.heap.size sv) (fun k hk e => by
        subst e
        rcases hk with q | q
        · exact nR.out q
        · have hz1 := HB.out.size
          have hz2 := hb2.size
          have hz3 := hsz1.out
          have hz4 := hszW.out
          have hz5 : (w2.alloc (.cells #[.int .i64 ((x.num : Int) + 1), .int .i64 (g : Int), .string key, .int .u64 (st : Int)] 103)).drew.heap.size ≤ w.heap.size := q.1
          have hz6 := (below_drew (below1 w2 (.cells #[.int .i64 ((x.num : Int) + 1), .int .i64 (g : Int), .string key, .int .u64 (st : Int)] 103))).size
          omega)
      refine ⟨_, _, _, hA2.mono (fun k hk => ?_) (fun k hk => ?_)⟩
      · rcases hk with q | q
        · exact .inl q
        · refine .inr ⟨?_, ?_⟩
          · have hz1 := (HOw.out).size
            have hz6 := (below_drew (below1 w2 (.cells #[.int .i64 ((x.num : Int) + 1), .int .i64 (g : Int), .string key, .int .u64 (st : Int)] 103))).size
            have := q.1
            omega
          · have hz7 := hbq.size
            have hz8 : w15.heap.size = wF.heap.size := by rw [← ewF]; simp [World.setCell]
            have := q.2
            simp only [setRow_size]
            omega
      · rcases hk with q | q
        · exact ⟨HLO.out k q, by have := (h.out.lt k q).2; have := hoF.out.size; have := hbq.size; simp only [setRow_size]; omega⟩
        · exact ⟨by omega, q.2⟩
    · exact (hoF.out.trans' (Out.of_below hbq)).trans ((out_setRow wq w.heap.size sv).mono fun k hk => .inr ⟨by omega, by subst hk; have := hszW.out; have := HOW.out.size; have := (hoF.out.trans' (Out.of_below hbq)).size; have := hRF.out; have hz9 := (Array.getElem?_eq_some_iff.1 hRF.out).1; have := hbq.size; omega⟩)
theorem want_any (h : CliAt w B p K x O) (hB : B ≤ w.heap.size) (hC : ∀ w', Below B w w' → CfgAt w' K.c K.A K.B) (hf : formedB K.c = true) (hca : K.c.reps.length ≤ K.ca) (ht : x.turn < 60) (g : Nat) (key : ByteArray) (st : Nat) (hg : g < K.c.reps.length) (hn : x.num ≤ 1000000) (ha : x.asks.length ≤ 100) :
    Calls Tryz.prog 39 #[.pointer (some ⟨p, 0, none⟩), .int .i64 (g : Int), .string key, .int .u64 (st : Int)] w (CliPost w B p K O (.agg (sentX K.c (wantD x g key st) (askD x g key st)).vs) (wantD x g key st)) := by
  obtain ⟨vr, vw, va, vk, h⟩ := h
  exact (want_v ⟨vr, vw, va, h⟩ hB hC hf hca ht g key st hg hn ha).mono fun _ _ ⟨e, h, ho⟩ => ⟨e, h.toAt, ho⟩
end
end Go.Proofs.YtjgloipgnnigmaaGreatDoor
/- Layer 21 in plain Lean: the invariant of a session, kept by whatever is done. -/
namespace Go.Proofs.YtjgloipgnnigmaaGreatDoor

def akeys (x : CliD) : List ByteArray := x.rds.map Rd.key ++ x.asks.map AskD.key
structure CliInv (c : Cfg) (N : Nat) (x : CliD) : Prop where
  st : x.state ≤ 3
  sq : x.seq ≤ 1048576
  nm : x.num ≤ N
  tn : x.turn < 60
  an : x.asks.length ≤ 6
  rn : x.rds.length ≤ 6
  wn : x.wrs.length ≤ 6
  kn : x.keys.length ≤ 6
  idle : x.state = 0 → x.asks = [] ∧ x.rds = [] ∧ x.wrs = []
  com : x.state = 2 → x.asks = [] ∧ 0 < x.rds.length + x.wrs.length
  one : inTxn x = true → 1 ≤ x.seq ∧ x.rds.length + x.asks.length ≤ 6 ∧ (akeys x).Nodup ∧ ∀ k ∈ akeys x, keyB k = true
  srt : x.rds.Pairwise (fun a b => leR a b = true)
  wr : WrOK x.wrs
  sn : x.state = 3 → (∀ a ∈ x.asks, a.key = noStr) ∨ (x.floor ≤ x.stamp ∧ ∀ a ∈ x.asks, a.key ≠ noStr)
  ky : ∀ k ∈ x.keys, keyB k = true
  ag : ∀ a ∈ x.asks, a.g < c.reps.length
  ah : ∀ a ∈ x.asks, a.key = noStr ∨ (keyB a.key = true ∧ a.g = homeN c a.key)
  nn : ∀ a ∈ x.asks, a.n ≤ N
theorem inTxn_1 {x : CliD} (h : x.state = 1) : inTxn x = true := by simp [inTxn, h]
theorem inTxn_2 {x : CliD} (h : x.state = 2) : inTxn x = true := by simp [inTxn, h]
theorem inTxn_no {x : CliD} (h1 : x.state ≠ 1) (h2 : x.state ≠ 2) : inTxn x = false := by simp [inTxn, h1, h2]
theorem noStr_nokey : keyB noStr = false := by decide
theorem key_ne {k : ByteArray} (h : keyB k = true) : k ≠ noStr := fun e => by subst e; rw [noStr_nokey] at h; cases h
theorem inv_0 (c : Cfg) (N : Nat) : CliInv c N cli0 :=
  { st := by decide, sq := by decide, nm := Nat.zero_le _, tn := by decide, an := by decide, rn := by decide, wn := by decide, kn := by decide, idle := fun _ => ⟨rfl, rfl, rfl⟩, com := fun h => (by cases h), one := fun h => (by simp [inTxn, cli0] at h), srt := List.Pairwise.nil, wr := wrOK_nil, sn := fun h => (by cases h), ky := fun _ h => (by cases h), ag := fun _ h => (by cases h), ah := fun _ h => (by cases h), nn := fun _ h => (by cases h) }
section
variable {c : Cfg} {N : Nat} {x : CliD}
theorem CliInv.up (h : CliInv c N x) {M : Nat} (hM : N ≤ M) : CliInv c M x := { h with nm := Nat.le_trans h.nm hM, nn := fun a ha => Nat.le_trans (h.nn a ha) hM }
theorem CliInv.rest (h : CliInv c N x) : CliInv c N (restD x) :=
  { st := Nat.zero_le _, sq := h.sq, nm := h.nm, tn := h.tn, an := Nat.zero_le _, rn := Nat.zero_le _, wn := Nat.zero_le _, kn := Nat.zero_le _, idle := fun _ => ⟨rfl, rfl, rfl⟩, com := fun h => (by cases h), one := fun h => (by simp [inTxn, restD] at h), srt := List.Pairwise.nil, wr := wrOK_nil, sn := fun h => (by cases h), ky := fun _ h => (by cases h), ag := fun _ h => (by cases h), ah := fun _ h => (by cases h), nn := fun _ h => (by cases h) }
theorem CliInv.floor (h : CliInv c N x) (n : Nat) (h3 : x.state ≠ 3) : CliInv c N { x with floor := n } := { h with sn := fun e => absurd e h3 }
theorem CliInv.begin (h : CliInv c N x) : CliInv c N (beginD x) := by
  rw [beginD]
  split
  · rename_i h0
    obtain ⟨e1, e2, e3⟩ := h.idle h0.1
    exact { st := by show 1 ≤ 3; decide, sq := by show x.seq + 1 ≤ _; omega, nm := h.nm, tn := h.tn, an := h.an, rn := h.rn, wn := h.wn, kn := h.kn, idle := fun e => (by cases e), com := fun e => (by cases e), one := fun _ => ⟨by show 1 ≤ x.seq + 1; omega, by show x.rds.length + x.asks.length ≤ 6; rw [e1, e2]; decide, by show (akeys x).Nodup; rw [akeys, e1, e2]; exact List.nodup_nil, by show ∀ k ∈ akeys x, _; rw [akeys, e1, e2]; intro k hk; cases hk⟩, srt := h.srt, wr := h.wr, sn := fun e => (by cases e), ky := h.ky, ag := h.ag, ah := h.ah, nn := h.nn }
  · exact h
theorem wantD_len (g : Nat) (k : ByteArray) (s : Nat) : (wantD x g k s).asks.length = x.asks.length + 1 := by simp [wantD]
theorem CliInv.read (h : CliInv c N x) (hf : formedB c = true) (key : ByteArray) : CliInv c (N + 1) (readD c x key) := by
  rw [readD]
  split
  · rename_i h4
    have h1 : x.state = 1 ∧ keyB key = true ∧ hasD x key = false ∧ x.rds.length + x.asks.length < 6 := by
      unfold readK at h4
      split at h4; · cases h4
      split at h4; · cases h4
      split at h4; · cases h4
      split at h4; · cases h4
      rename_i q1 q2 q3 q4
      exact ⟨by omega, by simpa using q2, by simpa using q3, by omega⟩
    obtain ⟨s1, hk, hh, hl⟩ := h1
    obtain ⟨o1, o2, o3, o4⟩ := h.one (inTxn_1 s1)
    have ho : homeN c key < c.reps.length := by
      have := leTo_le c.bnds key c.bnds.length
      have := formed_len hf
      unfold homeN; omega
    have hu := h.up (M := N + 1) (by omega)
    have hak : akeys (wantD x (homeN c key) key 0) = akeys x ++ [key] := by simp [akeys, wantD, askD]
    have hno : key ∉ akeys x := fun hm => by
      simp only [hasD, Bool.or_eq_false_iff, List.any_eq_false, decide_eq_true_eq] at hh
      rcases List.mem_append.1 hm with q | q
      · obtain ⟨r, hr, e⟩ := List.mem_map.1 q; exact hh.1 r hr e
      · obtain ⟨r, hr, e⟩ := List.mem_map.1 q; exact hh.2 r hr e
    exact { hu with
      nm := by show x.num + 1 ≤ N + 1; have := h.nm; omega
      an := by rw [wantD_len]; have := h.an; omega
      idle := fun e => by rw [show (wantD x (homeN c key) key 0).state = x.state from rfl, s1] at e; cases e
      com := fun e => by rw [show (wantD x (homeN c key) key 0).state = x.state from rfl, s1] at e; cases e
      one := fun _ => ⟨o1, by rw [wantD_len]; show x.rds.length + _ ≤ 6; omega, by
        rw [hak, List.nodup_append]
        exact ⟨o3, by simp, fun a ha b hb e => by simp at hb; subst hb; subst e; exact hno ha⟩, by
        rw [hak]
        intro k hkm
        rcases List.mem_append.1 hkm with q | q
        · exact o4 k q
        · simp at q; subst q; exact hk⟩
      sn := fun e => by rw [show (wantD x (homeN c key) key 0).state = x.state from rfl, s1] at e; cases e
      ag := fun a ha => by
        rcases List.mem_append.1 ha with q | q
        · exact h.ag a q
        · simp at q; subst q; exact ho
      ah := fun a ha => by
        rcases List.mem_append.1 ha with q | q
        · exact h.ah a q
        · simp at q; subst q; exact .inr ⟨hk, rfl⟩
      nn := fun a ha => by
        rcases List.mem_append.1 ha with q | q
        · exact hu.nn a q
        · simp at q; subst q; show x.num + 1 ≤ N + 1; have := h.nm; omega }
  · exact h.up (by omega)
theorem insK_len (l : List Wr) (k : Nat) (w : Wr) (hk : k ≤ l.length) : (insK l k w).length = l.length + 1 := by simp [insK]; omega
theorem CliInv.wrs (h : CliInv c N x) {l : List Wr} (hl : l.length ≤ 6) (hw : WrOK l) (h1 : x.state = 1) : CliInv c N { x with wrs := l } :=
  { h with wn := hl, wr := hw, idle := fun e => (by rw [show x.state = 0 from e] at h1; cases h1), com := fun e => (by rw [show x.state = 2 from e] at h1; cases h1) }
theorem CliInv.write (h : CliInv c N x) (key : ByteArray) (v : Val) : CliInv c N (writeD x key v) := by
  have hq : ∀ k, writeK x key v = k → k = 2 ∨ k = 4 → x.state = 1 ∧ keyB key = true ∧ formedV v = true ∧ (k = 2 → atK x.wrs key = true) ∧ (k = 4 → atK x.wrs key = false ∧ x.wrs.length < 6) := by
    intro k e hk
    unfold writeK at e
    split at e; · omega
    rename_i q1
    split at e; · omega
    rename_i q2
    simp only [Bool.and_eq_false_iff, not_or, Bool.not_eq_false] at q2
    refine ⟨by omega, q2.1, q2.2, ?_⟩
    split at e
    · rename_i q3; exact ⟨fun _ => q3, fun e' => by omega⟩
    rename_i q3
    split at e
    · omega
    rename_i q4
    exact ⟨fun e' => by omega, fun _ => ⟨by simpa using q3, by omega⟩⟩
  rw [writeD]
  split
  · rename_i e
    obtain ⟨s1, hk, hv, ha, _⟩ := hq 2 e (.inl rfl)
    have ha := ha rfl
    simp only [atK, Bool.and_eq_true, decide_eq_true_eq] at ha
    exact h.wrs (by simpa using h.wn) (wrOK_set h.wr ha.1 ha.2 hv) s1
  · rename_i e
    obtain ⟨s1, hk, hv, _, ha⟩ := hq 4 e (.inr rfl)
    obtain ⟨ha, hl⟩ := ha rfl
    exact h.wrs (by rw [insK_len _ _ _ (low_le _ _)]; omega) (wrOK_ins h.wr ha hk hv) s1
  · exact h
theorem CliInv.commit (h : CliInv c N x) : CliInv c N (commitD x) := by
  rw [commitD]
  split
  · exact h.rest
  · rename_i e
    unfold commitK at e
    split at e; · cases e
    rename_i q1
    split at e; · cases e
    rename_i q2
    have s1 : x.state = 1 := by omega
    have ha : x.asks = [] := List.eq_nil_of_length_eq_zero (by omega)
    obtain ⟨o1, o2, o3, o4⟩ := h.one (inTxn_1 s1)
    exact { h with st := by show 2 ≤ 3; decide, idle := fun e => (by cases e), com := fun _ => ⟨ha, by show 0 < x.rds.length + x.wrs.length; omega⟩, one := fun _ => ⟨o1, o2, o3, o4⟩, sn := fun e => (by cases e) }
  · exact h
theorem CliInv.abort (h : CliInv c N x) : CliInv c N (abortD x) := by
  rw [abortD]; split
  · exact h.rest
  · exact h
theorem wantsD_state (l : List (Nat × ByteArray × Nat)) : ∀ x : CliD, (wantsD x l).state = x.state ∧ (wantsD x l).seq = x.seq ∧ (wantsD x l).turn = x.turn ∧ (wantsD x l).floor = x.floor ∧ (wantsD x l).rds = x.rds ∧ (wantsD x l).wrs = x.wrs ∧ (wantsD x l).keys = x.keys ∧ (wantsD x l).stamp = x.stamp ∧ (wantsD x l).num = x.num + l.length ∧ (wantsD x l).asks.length = x.asks.length + l.length := by
  induction l with
  | nil => intro x; exact ⟨rfl, rfl, rfl, rfl, rfl, rfl, rfl, rfl, rfl, rfl⟩
  | cons p l ih =>
    intro x
    obtain ⟨g, k, s⟩ := p
    obtain ⟨a1, a2, a3, a4, a5, a6, a7, a8, a9, a10⟩ := ih (wantD x g k s)
    rw [wantsD]
    refine ⟨a1, a2, a3, a4, a5, a6, a7, a8, ?_, ?_⟩
    · rw [a9]; simp [wantD]; omega
    · rw [a10, wantD_len]; simp; omega
theorem wantsD_asks (P : AskD → Prop) (M : Nat) (l : List (Nat × ByteArray × Nat)) : ∀ x : CliD, (∀ a ∈ x.asks, P a) → (∀ p ∈ l, ∀ n, n ≤ M → P ⟨n, p.1, p.2.1, p.2.2⟩) → x.num + l.length ≤ M → ∀ a ∈ (wantsD x l).asks, P a := by
  induction l with
  | nil => intro x h _ _; exact h
  | cons p l ih =>
    intro x h hl hM
    obtain ⟨g, k, s⟩ := p
    rw [wantsD]
    refine ih _ (fun a ha => ?_) (fun p hp => hl p (List.mem_cons_of_mem _ hp)) (by simp [wantD] at hM ⊢; omega)
    rcases List.mem_append.1 ha with q | q
    · exact h a q
    · simp at q; subst q; exact hl (g, k, s) (List.mem_cons_self ..) _ (by simp at hM; show x.num + 1 ≤ M; omega)
/-- Asking many things in a snapshot. -/
theorem CliInv.wants (h : CliInv c N x) (h3 : x.state = 3) (ha : x.asks = []) (l : List (Nat × ByteArray × Nat)) (hl : l.length ≤ 6) (hg : ∀ p ∈ l, p.1 < c.reps.length)
    (hk : (∀ p ∈ l, p.2.1 = noStr) ∨ (x.floor ≤ x.stamp ∧ ∀ p ∈ l, keyB p.2.1 = true ∧ p.1 = homeN c p.2.1)) : CliInv c (N + 6) (wantsD x l) := by
  obtain ⟨a1, a2, a3, a4, a5, a6, a7, a8, a9, a10⟩ := wantsD_state l x
  have hal := fun P hx hp => wantsD_asks P (N + 6) l x hx hp (by have := h.nm; omega)
  have hempty : ∀ (P : AskD → Prop), ∀ a ∈ x.asks, P a := fun P a q => by rw [ha] at q; cases q
  exact {
    st := by rw [a1]; exact h.st
    sq := by rw [a2]; exact h.sq
    nm := by rw [a9]; have := h.nm; omega
    tn := by rw [a3]; exact h.tn
    an := by rw [a10, ha]; simpa using hl
    rn := by rw [a5]; exact h.rn
    wn := by rw [a6]; exact h.wn
    kn := by rw [a7]; exact h.kn
    idle := fun e => by rw [a1, h3] at e; cases e
    com := fun e => by rw [a1, h3] at e; cases e
    one := fun e => by rw [inTxn_no (by rw [a1, h3]; decide) (by rw [a1, h3]; decide)] at e; cases e
    srt := by rw [a5]; exact h.srt
    wr := by rw [a6]; exact h.wr
    sn := fun _ => by
      rcases hk with hk | ⟨hs, hk⟩
      · exact .inl (hal _ (hempty _) fun p hp n _ => hk p hp)
      · exact .inr ⟨by rw [a4, a8]; exact hs, hal _ (hempty _) fun p hp n _ => key_ne (hk p hp).1⟩
    ky := by rw [a7]; exact h.ky
    ag := hal _ (hempty _) fun p hp n _ => hg p hp
    ah := hal _ (hempty _) fun p hp n _ => by
      rcases hk with hk | ⟨_, hk⟩
      · exact .inl (hk p hp)
      · exact .inr (hk p hp)
    nn := hal _ (hempty _) fun p hp n hn => hn }
theorem snapW_len (c : Cfg) (keys : List ByteArray) (hf : formedB c = true) : (snapW c keys).length ≤ 4 := by
  have h1 := formed_len hf
  have h2 := groupsTo_length c keys c.reps.length
  rw [snapW, List.length_map, groupsL, if_pos hf]; omega
theorem groupsL_mem {c : Cfg} {keys : List ByteArray} {g : Int} (h : g ∈ groupsL c keys) : 0 ≤ g ∧ g.toNat < c.reps.length := by
  unfold groupsL at h
  split at h
  · obtain ⟨k, hk, _, rfl⟩ := ((groupsTo_rises c keys c.reps.length).2 g).1 h
    simp [hk]
  · cases h
theorem CliInv.snap (h : CliInv c N x) (hf : formedB c = true) (keys : List ByteArray) : CliInv c (N + 6) (snapD c x keys) := by
  rw [snapD]
  split
  · rename_i e
    unfold snapK at e
    split at e; · cases e
    rename_i q1
    split at e; · cases e
    rename_i q2
    have s0 : x.state = 0 := by omega
    simp only [Bool.and_eq_false_iff, not_or, Bool.not_eq_false, decide_eq_true_eq] at q2
    obtain ⟨⟨k1, k6⟩, kr⟩ := q2
    obtain ⟨e1, e2, e3⟩ := h.idle s0
    have hb : CliInv c N (snap0 x keys) :=
      { h with st := by show 3 ≤ 3; decide, kn := k6, idle := fun e => (by cases e), com := fun e => (by cases e), one := fun e => (by simp [inTxn, snap0] at e), sn := fun _ => .inl (by show ∀ a ∈ x.asks, _; rw [e1]; intro a ha; cases ha), ky := ((rise_iff keys).1 kr).1 }
    refine hb.wants rfl e1 _ (by have := snapW_len c keys hf; omega) (fun p hp => ?_) (.inl fun p hp => ?_)
    · obtain ⟨g, hg, rfl⟩ := List.mem_map.1 hp
      exact (groupsL_mem hg).2
    · obtain ⟨g, hg, rfl⟩ := List.mem_map.1 hp
      rfl
  · exact h.up (by omega)
theorem CliInv.safe (h : CliInv c N x) (hf : formedB c = true) (h3 : x.state = 3) : CliInv c (N + 6) (safeD c x) := by
  rw [safeD]
  split
  · exact h.up (by omega)
  · rename_i e
    unfold safeK at e
    split at e; · cases e
    rename_i q1
    split at e; · cases e
    rename_i q2
    refine h.wants h3 (List.eq_nil_of_length_eq_zero (by omega)) _ (by rw [safeW, List.length_map]; exact h.kn) (fun p hp => ?_) (.inr ⟨by omega, fun p hp => ?_⟩)
    · obtain ⟨k, hk, rfl⟩ := List.mem_map.1 hp
      have := leTo_le c.bnds k c.bnds.length
      have := formed_len hf
      show homeN c k < _
      unfold homeN; omega
    · obtain ⟨k, hk, rfl⟩ := List.mem_map.1 hp
      exact ⟨h.ky k hk, rfl⟩
  · exact h.rest.up (by omega)
theorem mem_erase {α : Type} {l : List α} {i : Nat} {a : α} (h : a ∈ l.eraseIdx i) : a ∈ l := List.mem_of_mem_eraseIdx h
theorem CliInv.answ (h : CliInv c N x) (m : MsgV) : CliInv c N (answD x m) :=
  { h with
    an := Nat.le_trans (List.length_eraseIdx_le _ _) h.an
    idle := fun e => by obtain ⟨e1, e2, e3⟩ := h.idle e; exact ⟨by show x.asks.eraseIdx _ = []; rw [e1]; rfl, e2, e3⟩
    com := fun e => by obtain ⟨e1, e2⟩ := h.com e; exact ⟨by show x.asks.eraseIdx _ = []; rw [e1]; rfl, e2⟩
    one := fun e => by
      obtain ⟨o1, o2, o3, o4⟩ := h.one e
      have hs : (akeys (answD x m)).Sublist (akeys x) := List.Sublist.append (List.Sublist.refl _) ((List.eraseIdx_sublist _ _).map _)
      exact ⟨o1, by show x.rds.length + (x.asks.eraseIdx _).length ≤ 6; have := List.length_eraseIdx_le x.asks (answK x m.num m.key); omega, hs.nodup o3, fun k hk => o4 k (hs.subset hk)⟩
    sn := fun e => (h.sn e).imp (fun q a ha => q a (mem_erase ha)) (fun q => ⟨q.1, fun a ha => q.2 a (mem_erase ha)⟩)
    ag := fun a ha => h.ag a (mem_erase ha)
    ah := fun a ha => h.ah a (mem_erase ha)
    nn := fun a ha => h.nn a (mem_erase ha) }
end
end Go.Proofs.YtjgloipgnnigmaaGreatDoor
/- Small functions that message.Formed comes to, told loosely: some bool. -/
namespace Go.Proofs.YtjgloipgnnigmaaGreatDoor
open Go.RowKit Go.Shelf

/-- Some bool, and all that was there is as it was. -/
def SomeB (w : World) (e : Ending) (w' : World) : Prop := ∃ b : Bool, e = .returned (.bool b) ∧ Below w.heap.size w w'
theorem ballotF_some (r : Nat) (n : Int) (w : World) : Calls Tryz.prog 95 #[.agg #[.int .u32 (r : Int), .int .i64 n]] w (SomeB w) := by
  obtain ⟨W, eW, HB, c0, c1⟩ := box2 w (.int .u32 (r : Int)) (.int .i64 n) 31
  cases h0 : decide ((0 : Int) ≤ n)
  · go_enter Tryz.func95, Tryz.ntmps95
    go_wp2
    go_ret
    exact ⟨_, rfl, HB⟩
  · cases h1 : decide (n < 5)
    all_goals
      go_enter Tryz.func95, Tryz.ntmps95
      go_wp2
      go_ret
      exact ⟨_, rfl, HB⟩
theorem cmdGroup_some (g : Int) (w : World) : Calls Tryz.prog 142 #[.int .i64 g] w (SomeB w) := by
  cases h0 : decide ((0 : Int) ≤ g)
  · go_enter Tryz.func142, Tryz.ntmps142
    go_wp2
    go_ret
    exact ⟨_, rfl, Below.refl _ _⟩
  · cases h1 : decide (g < 4)
    all_goals
      go_enter Tryz.func142, Tryz.ntmps142
      go_wp2
      go_ret
      exact ⟨_, rfl, Below.refl _ _⟩
def fieldsS (k : Int) : ByteArray :=
  if k = 1 then ⟨#[66]⟩
  else if k = 2 then ⟨#[66, 83, 72]⟩
  else if k = 3 then ⟨#[66]⟩
  else if k = 4 then ⟨#[66, 83, 67]⟩
  else if k = 5 then ⟨#[66, 83]⟩
  else if k = 6 then ⟨#[83, 67]⟩
  else if k = 7 then ⟨#[83]⟩
  else if k = 8 then ⟨#[84]⟩
  else if k = 9 then ⟨#[73, 71, 80]⟩
  else if k = 10 then ⟨#[73, 71, 89]⟩
  else if k = 11 then ⟨#[73, 71, 80, 89]⟩
  else if k = 12 then ⟨#[80, 78, 75]⟩
  else if k = 13 then ⟨#[71, 80, 78, 75, 86, 88, 69]⟩
  else if k = 14 then ⟨#[78]⟩
  else if k = 15 then ⟨#[83, 68]⟩
  else ⟨#[]⟩
theorem kind15 (k : Int) : k = 1 ∨ k = 2 ∨ k = 3 ∨ k = 4 ∨ k = 5 ∨ k = 6 ∨ k = 7 ∨ k = 8 ∨ k = 9 ∨ k = 10 ∨ k = 11 ∨ k = 12 ∨ k = 13 ∨ k = 14 ∨ k = 15 ∨ (k ≠ 1 ∧ k ≠ 2 ∧ k ≠ 3 ∧ k ≠ 4 ∧ k ≠ 5 ∧ k ≠ 6 ∧ k ≠ 7 ∧ k ≠ 8 ∧ k ≠ 9 ∧ k ≠ 10 ∧ k ≠ 11 ∧ k ≠ 12 ∧ k ≠ 13 ∧ k ≠ 14 ∧ k ≠ 15) := by omega
theorem fieldsS_none {k : Int} (h : k ≠ 1 ∧ k ≠ 2 ∧ k ≠ 3 ∧ k ≠ 4 ∧ k ≠ 5 ∧ k ≠ 6 ∧ k ≠ 7 ∧ k ≠ 8 ∧ k ≠ 9 ∧ k ≠ 10 ∧ k ≠ 11 ∧ k ≠ 12 ∧ k ≠ 13 ∧ k ≠ 14 ∧ k ≠ 15) : fieldsS k = ⟨#[]⟩ := by
  obtain ⟨h1, h2, h3, h4, h5, h6, h7, h8, h9, h10, h11, h12, h13, h14, h15⟩ := h
  simp only [fieldsS, h1, h2, h3, h4, h5, h6, h7, h8, h9, h10, h11, h12, h13, h14, h15, if_false]
theorem fields_ascii (k : Int) : ∀ b ∈ (fieldsS k).data.toList, b.toNat < 128 := by
  rcases kind15 k with rfl | rfl | rfl | rfl | rfl | rfl | rfl | rfl | rfl | rfl | rfl | rfl | rfl | rfl | rfl | h
  case inr.inr.inr.inr.inr.inr.inr.inr.inr.inr.inr.inr.inr.inr.inr => rw [fieldsS_none h]; decide
  all_goals decide
theorem fields_size (k : Int) : (fieldsS k).size ≤ 10 := by
  rcases kind15 k with rfl | rfl | rfl | rfl | rfl | rfl | rfl | rfl | rfl | rfl | rfl | rfl | rfl | rfl | rfl | h
  case inr.inr.inr.inr.inr.inr.inr.inr.inr.inr.inr.inr.inr.inr.inr => rw [fieldsS_none h]; decide
  all_goals decide
theorem fields_any (k : Int) (w : World) : Calls Tryz.prog 90 #[.int .i64 k] w fun e w' => e = .returned (.string (fieldsS k)) ∧ w = w' := by
  rcases kind15 k with rfl | rfl | rfl | rfl | rfl | rfl | rfl | rfl | rfl | rfl | rfl | rfl | rfl | rfl | rfl | h
  case inr.inr.inr.inr.inr.inr.inr.inr.inr.inr.inr.inr.inr.inr.inr =>
    rw [fieldsS_none h]
    obtain ⟨h1, h2, h3, h4, h5, h6, h7, h8, h9, h10, h11, h12, h13, h14, h15⟩ := h
    go_enter Tryz.func90, Tryz.ntmps90
    go_wp2
    go_ret
    exact ⟨rfl, rfl⟩
  all_goals
    go_enter Tryz.func90, Tryz.ntmps90
    go_wp2
    go_ret
    exact ⟨rfl, rfl⟩
end Go.Proofs.YtjgloipgnnigmaaGreatDoor
/- Parts of a block of cells: a struct stored into a part, a struct loaded out of a part. -/
namespace Go.Proofs.YtjgloipgnnigmaaGreatDoor
open Go.RowKit

section
variable {P : Program}
def partOf (old : Array Value) (off : Nat) (cells : Array Value) : Array Value := (old.toList.take off ++ cells.toList ++ old.toList.drop (off + cells.size)).toArray
theorem run_storeVar_part (w : World) (g off : Nat) (t ty : TypeId) (old cells : Array Value) (hg : w.heap[g]? = some (.cells old t (0, 0))) (hi : (P.info? ty).map (·.size) = some cells.size)
    (hfit : off + cells.size ≤ old.size) (h1 : cells.all (·.oneCell') = true) : (storeVar ty ⟨g, off, none⟩ (.agg cells)).run P w = .ok () (w.setRow g (partOf old off cells)) := by
  have := run_storeCells_at P g off t cells.toList 0 old w hg (by simp; omega) (fun v hv => (Array.all_eq_true_iff_forall_mem.1 h1) v (by simpa using hv))
  cases hq : P.info? ty with
  | none => simp [hq] at hi
  | some i =>
    have hs : cells.size = i.size := by simp [hq] at hi; omega
    simp only [Nat.add_zero, Array.length_toList] at this
    simp [storeVar, sizeOf, typeInfo, hq, Value.cells, hs, partOf]
    rw [← hs]
    simpa using this
theorem wpList_store_part {ops : Array Oper} {rest : List Oper} {o : Oper} {a : Act} {w : World} {Q : Exit → Act → World → Prop} (hgd : o.guard = none) (ty : TypeId) (x y : Operand) (ho : o.op = .store ty x y)
    (g off : Nat) (cells : Array Value) (hx : a.eval x = .pointer (some ⟨g, off, none⟩)) (hy : a.eval y = .agg cells)
    (t : TypeId) (old : Array Value) (hg : w.heap[g]? = some (.cells old t (0, 0))) (hi : (P.info? ty).map (·.size) = some cells.size)
    (hfit : off + cells.size ≤ old.size) (h1 : cells.all (·.oneCell') = true)
    (h : ∀ W : World, W.heap[g]? = some (.cells (partOf old off cells) t (0, 0)) → w.grownBy W (some g) → wpList P ops Q rest (a.put o.dst undef) W) : wpList P ops Q (o :: rest) a w := by
  refine wpList_plain hgd fun _ hK => ?_
  unfold Oper.wp execOp
  simp only [ho, hx, hy, Instr.storeAt, Instr.sureAddr, Sem.run_bind, Sem.run_pure, Result.andThen_ok, run_storeVar_part w g off t ty old cells hg hi hfit h1]
  refine hK _ _ (h _ ?_ ?_)
  · rw [setRow_heap w g old _ t _ hg]
  · exact ⟨rfl, rfl, rfl, by simp [World.setRow], fun k _ hk => setRow_other w g k _ (fun e => hk (by rw [e]))⟩
theorem row_part {w : World} {g off : Nat} {cs : Array Value} {t : TypeId} (h : w.heap[g]? = some (.cells cs t (0, 0))) (pre post : List Value) (sub : Array Value) (hs : cs.toList = pre ++ (sub.toList ++ post)) (ho : pre.length = off) : CellRow w ⟨g, off, none⟩ sub := by
  intro j v hv
  rw [Go.WideShapes.add_plain, cell_of_row w g _ _ _ _ h, ← Array.getElem?_toList, hs, List.getElem?_append_right (by omega), List.getElem?_append_left]
  · rw [show off + j - pre.length = j by omega, Array.getElem?_toList]; exact hv
  · have := (Array.getElem?_eq_some_iff.1 hv).1
    simp; omega
end
end Go.Proofs.YtjgloipgnnigmaaGreatDoor
