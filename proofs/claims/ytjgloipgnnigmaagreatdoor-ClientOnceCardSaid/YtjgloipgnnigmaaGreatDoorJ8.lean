/- The client's want: it asks for something. -/
import Derived.Test.YtjgloipgnnigmaaGreatDoorJ7
import Derived.Test.YtjgloipgnnigmaaGreatDoorJ4
import Derived.Deep.RegionLaw
import Derived.Deep.AppendLies
import Derived.Test.YtjgloipgnnigmaaGreatDoorJ6
import Derived.Test.YtjgloipgnnigmaaGreatDoorJ1
import Derived.Test.YtjgloipgnnigmaaGreatDoorJ3
import Derived.RegionTactic
import Derived.ChangeAlike
import Derived.Deep.Onto
set_option linter.unusedVariables false
set_option linter.unusedSimpArgs false
namespace Go.Proofs.YtjgloipgnnigmaaGreatDoor
open Go.RowKit Go.Shelf Go.Sort

theorem one_cell_ask {a b : Int} {s : ByteArray} {t : Int} : ∀ u ∈ [Value.int .i64 a, .int .i64 b, .string s, .int .u64 t], u.oneCell' = true := fun u hu => by
  simp at hu; rcases hu with rfl | rfl | rfl | rfl <;> rfl
theorem out_setRow (w : World) (g : Nat) (cs : Array Value) : Out (fun k => k = g) w (w.setRow g cs) :=
  ⟨rfl, rfl, rfl, by simp, fun k _ hk => setRow_other w g k cs hk⟩
theorem own_or {u v : Value} {n : Nat} (h : u.ownBlock = v.ownBlock ∨ u.ownBlock = some n) : ∀ g, u.ownBlock = some g → v.ownBlock = some g ∨ n ≤ g := fun g hg =>
  h.elim (fun e => .inl (by rw [← e]; exact hg)) (fun e => .inr (by rw [hg] at e; cases e; exact Nat.le_refl _))
/-- A client whose row of keys is told. -/
def CliV (w : World) (B p : Nat) (K : CliK) (x : CliD) (vk : Value) (O : Nat → Prop) : Prop := ∃ vr vw va, CliIn w B p K x vr vw va vk O
def WantPost (w : World) (B p : Nat) (K : CliK) (vk : Value) (O : Nat → Prop) (v : Value) (x : CliD) (e : Ending) (w' : World) : Prop := e = .returned v ∧ CliV w' B p K x vk (ext O w w') ∧ Out O w w'
section
variable {w w' : World} {B p : Nat} {K : CliK} {x : CliD} {vk : Value} {O O' : Nat → Prop}
theorem CliV.toAt (h : CliV w B p K x vk O) : CliAt w B p K x O := by
  obtain ⟨vr, vw, va, h⟩ := h
  exact ⟨_, _, _, _, h⟩
theorem CliV.out (h : CliV w B p K x vk O) (hw : Out O' w w') (hd : ∀ k, O k → ¬ O' k) : CliV w' B p K x vk O := by
  obtain ⟨vr, vw, va, h⟩ := h
  exact ⟨vr, vw, va, h.out hw hd⟩
theorem CliV.later (h : CliV w B p K x vk O) (hb : Below w.heap.size w w') : CliV w' B p K x vk O := h.out (O' := fun _ => False) (Out.of_below hb) (fun _ _ h => h)
theorem CliV.keys {A : Option Addr} {n c : Nat} (h : CliV w B p K x (.slice A n c) O) : StrsAt w A x.keys ∧ n = x.keys.length := by
  obtain ⟨vr, vw, va, h⟩ := h
  obtain ⟨A', c', e, _, hs⟩ := own_strs h.rowk
  cases e
  exact ⟨hs, rfl⟩
end
section
variable {w : World} {B p : Nat} {K : CliK} {x : CliD} {O : Nat → Prop}
set_option maxRecDepth 100000 in
set_option maxHeartbeats 4000000 in
theorem want_v {vk : Value} (h : CliV w B p K x vk O) (hB : B ≤ w.heap.size) (hC : ∀ w', Below B w w' → CfgAt w' K.c K.A K.B) (hf : formedB K.c = true) (hca : K.c.reps.length ≤ K.ca) (ht : x.turn < 60) (g : Nat) (key : ByteArray) (st : Nat) (hg : g < K.c.reps.length) (hn : x.num ≤ 1000000) (ha : x.asks.length ≤ 100) :
    Calls Tryz.prog 39 #[.pointer (some ⟨p, 0, none⟩), .int .i64 (g : Int), .string key, .int .u64 (st : Int)] w (WantPost w B p K vk O (.agg (sentX K.c (wantD x g key st) (askD x g key st)).vs) (wantD x g key st)) := by
  obtain ⟨vr, vw, va, h⟩ := h
  obtain ⟨W, eW, HB, hszW, hrW⟩ := boxed w #[.int .i64 0, .int .i64 0, .int .u32 0, .int .i64 0, .int .i64 0, .bool false, .int .u32 0, .int .i64 0, .int .i64 0, .int .i64 0, .int .i64 0, .slice none 0 0, .slice none 0 0, .int .i64 0, .int .i64 0, .int .i64 0, .int .u64 0, .bool false, .int .i64 0, .int .i64 0, .slice none 0 0, .slice none 0 0, .int .i64 0, .int .i64 0, .int .i64 0, .int .u64 0, .bool false, .int .i64 0, .string ⟨#[]⟩, .int .u64 0, .int .i64 0, .int .u64 0, .string ⟨#[]⟩, .int .i64 0, .slice none 0 0] 81
  have hW := h.later HB
  obtain ⟨_, _, _, _, _, c5, _⟩ := hW.cs
  have f5 := hW.fz 5
  have h1 := hW.s5 (x.num + 1)
  obtain ⟨w1, ew1⟩ : ∃ w1, W.setCell ⟨p, 5, none⟩ (.int .i64 ((x.num : Int) + 1)) = w1 := ⟨_, rfl⟩
  have e1 : W.setCell ⟨p, 5, none⟩ (.int .i64 ((x.num + 1 : Nat) : Int)) = w1 := by rw [← ew1]; rfl
  rw [e1] at h1
  have ho1 : Out O W w1 := by rw [← ew1]; exact out_p hW.hp (Out.refl _ _)
  obtain ⟨_, _, _, _, _, c5b, _⟩ := h1.cs
  have c5c : w1.cell? ⟨p, 5, none⟩ = some (.int .i64 ((x.num : Int) + 1)) := c5b
  have hsz1 : w1.heap.size = W.heap.size := by rw [← ew1]; simp [World.setCell]
  obtain ⟨w2, ew2, hb2, hs2, hr2⟩ := boxed w1 #[.int .i64 ((x.num : Int) + 1), .int .i64 (g : Int), .string key, .int .u64 (st : Int)] 103
  have h2 := h1.later hb2
  have d0 : w2.cell? ⟨w1.heap.size, 0, none⟩ = some (.int .i64 ((x.num : Int) + 1)) := by rw [cell_of_row w2 _ _ _ _ _ hr2]; rfl
  have d1 : w2.cell? ⟨w1.heap.size, 1, none⟩ = some (.int .i64 (g : Int)) := by rw [cell_of_row w2 _ _ _ _ _ hr2]; rfl
  have d2 : w2.cell? ⟨w1.heap.size, 2, none⟩ = some (.string key) := by rw [cell_of_row w2 _ _ _ _ _ hr2]; rfl
  have d3 : w2.cell? ⟨w1.heap.size, 3, none⟩ = some (.int .u64 (st : Int)) := by rw [cell_of_row w2 _ _ _ _ _ hr2]; rfl
  obtain ⟨_, _, _, _, _, _, _, _, _, _, c10, _⟩ := h2.cs
  obtain ⟨A10, cap10, e10, hcap, hA10, _⟩ := own_asks h2.rowa
  simp only at e10 hcap
  subst e10
  obtain ⟨i0, hi, hz0, hz1, hz2⟩ := info_parts info_ask
  have hw1 : IntKind.i64.wrap ((x.num : Int) + 1) = (x.num : Int) + 1 := IntWalk.i64_in _ (by omega)
  have hBW := HB.size
  have hBB : B ≤ w2.heap.size := by have := hb2.size; omega
  have c10b := keep (below1 w2 (.cells #[.int .i64 ((x.num : Int) + 1), .int .i64 (g : Int), .string key, .int .u64 (st : Int)] 103)) c10
  replace hsz1 := Lib.hid hsz1
  have H2 := Lib.hid h2
  have HRW := Lib.hid hrW
  have HO1 := Lib.hid ho1
  replace hs2 := Lib.hid hs2
  replace hszW := Lib.hid hszW
  replace hC := Lib.hid hC
  replace HB := Lib.hid HB
  replace h := Lib.hid h
  have na : (askCells x.asks).length = x.asks.length * 4 := askCells_len _
  replace na := Lib.hid na
  have nO : Hid (¬ O w1.heap.size) := fun e => by have := (h.out.lt _ e).2; have := hsz1.out; omega
  have nR : Hid (¬ O w.heap.size) := fun e => by have := (h.out.lt _ e).2; omega
  have HOw : Hid (Out O w w2) := ((Out.of_below HB.out).trans' ho1).trans' (Out.of_below hb2)
  have HOW : Hid (Out O W w2) := ho1.trans' (Out.of_below hb2)
  have HLO : Hid (∀ k, O k → B ≤ k) := fun k hk => (h.out.lt k hk).1
  obtain ⟨sv, hsv⟩ : ∃ sv, Hid ((sentX K.c (wantD x g key st) (askD x g key st)).vs = sv) := ⟨_, rfl⟩
  have hsv1 : Hid (sv.all (·.oneCell') = true ∧ sv.size = 35) := by show _ ∧ _; rw [← hsv.out]; exact ⟨snd_one _, snd_size _⟩
  have HS : Hid (∀ wz O', CliAt wz B p K (wantD x g key st) O' → CfgAt wz K.c K.A K.B → Calls Tryz.prog 54 #[.pointer (some ⟨p, 0, none⟩), .agg #[.int .i64 ((x.num : Int) + 1), .int .i64 (g : Int), .string key, .int .u64 (st : Int)]] wz (AggPost wz sv)) := fun wz O' a b => by
    rw [← hsv.out]
    exact sent_any a b hf hca ht (askD x g key st) hg
  rw [hsv.out]
  clear h1 h2 hW hrW hr2 ho1 c5b hcap hA10 e1
  go_enter Tryz.func39, Tryz.ntmps39
  go_wp2
  go_region_law (first
    | (refine ready_append_own_at rfl _ _ 93 rfl B 103 i0 _ 4 40 Tryz.underlying93 hi hz0 hz1 hz2 rfl (by decide) (.slice A10 x.asks.length cap10) x.asks.length (askCells x.asks) rfl (own_keep H2.out.rowa (below_drew (below1 _ _))) ⟨w2.heap.size, 0, none⟩ 1 1 [.int .i64 ((x.num : Int) + 1), .int .i64 (g : Int), .string key, .int .u64 (st : Int)] rfl rfl (World.news_of_block (heap_alloc_new w2 _)) one_cell_ask (le_maxLen (by omega)) (by omega) (Nat.le_trans hBB (below1 w2 _).size) ?_; intro v15 w15 HO15 hg15 hv15; obtain ⟨A15, c15, rfl⟩ := own_form HO15; have hKa := H2.out.later (below_drew (below1 w2 (.cells #[.int .i64 ((x.num : Int) + 1), .int .i64 (g : Int), .string key, .int .u64 (st : Int)] 103))); have hc15 := (hKa.cella hg15).1; have hf15 := (hKa.cella hg15).2))
  all_goals
    obtain ⟨wF, ewF⟩ : ∃ wF, w15.setCell ⟨p, 10, none⟩ (.slice A15 (x.asks.length + 1) c15) = wF := ⟨_, rfl⟩
    have hO15 : w15.ownsRow B 103 4 (.slice A15 (x.asks.length + 1) c15) (x.asks ++ [askD x g key st]).length (askCells (x.asks ++ [askD x g key st])) := by
      rw [askCells_snoc, List.length_append]; exact HO15
    have hK15 := hKa.growa (Nat.le_trans hBB (below_drew (below1 w2 _)).size) hg15 hO15 (own_or hv15)
    have ho15 : Out O w2 wF := by
      rw [← ewF]
      exact out_p H2.out.hp ((Out.of_below (below_drew (below1 _ _))).trans' (Out.of_grown hg15 (fun k e => (hKa.mia k e).1)))
    rw [ewF] at hK15
    replace d0 := ho15.cell d0 nO.out
    replace d1 := ho15.cell d1 nO.out
    replace d2 := ho15.cell d2 nO.out
    replace d3 := ho15.cell d3 nO.out
    have hRF := Lib.hid ((HOW.out.trans' ho15).obj HRW.out nR.out)
    have hoF := Lib.hid (HOw.out.trans' ho15)
    have hCF := Lib.hid (hC.out wF (hoF.out.below hB HLO.out))
    have hAF := Lib.hid hK15
    have hsz15 := Lib.hid hg15.size
    clear hK15 hO15 ho15 hKa hc15 hf15 hg15 hv15 HO15
    go_wp2_with (first
      | (go_at_call 54; refine (HS.out _ _ ⟨_, _, _, _, hAF.out⟩ hCF.out).mono ?_; rintro e wq ⟨rfl, hbq⟩)
      | (refine wpList_store_row rfl 81 _ _ rfl w.heap.size sv rfl rfl 81 _ (obj_keep hRF.out hbq) (by rw [info_snd, hsv1.out.2]) (by rw [hsv1.out.2]; rfl) hsv1.out.1 ?_))
    refine bodyPost_ret (v := .agg sv) (results_cell_row rfl _ _ w.heap.size _ sv _ _ rfl (setRow_heap _ _ _ _ _ _ (obj_keep hRF.out hbq)) Tryz.underlying81 rfl (by rw [info_snd, hsv1.out.2])) rfl ⟨rfl, ?_, ?_⟩
    · have hA2 := (hAF.out.later hbq).out (out_setRow wq w.heap.size sv) (fun k hk e => by
        subst e
        rcases hk with q | q
        · exact nR.out q
        · have hz1 := HB.out.size
          have hz2 := hb2.size
          have hz3 := hsz1.out
          have hz4 := hszW.out
          have hz5 : (w2.alloc (.cells #[.int .i64 ((x.num : Int) + 1), .int .i64 (g : Int), .string key, .int .u64 (st : Int)] 103)).drew.heap.size ≤ w.heap.size := q.1
          have hz6 := (below_drew (below1 w2 (.cells #[.int .i64 ((x.num : Int) + 1), .int .i64 (g : Int), .string key, .int .u64 (st : Int)] 103))).size
          omega)
      refine ⟨_, _, _, hA2.mono (fun k hk => ?_) (fun k hk => ?_)⟩
      · rcases hk with q | q
        · exact .inl q
        · refine .inr ⟨?_, ?_⟩
          · have hz1 := (HOw.out).size
            have hz6 := (below_drew (below1 w2 (.cells #[.int .i64 ((x.num : Int) + 1), .int .i64 (g : Int), .string key, .int .u64 (st : Int)] 103))).size
            have := q.1
            omega
          · have hz7 := hbq.size
            have hz8 : w15.heap.size = wF.heap.size := by rw [← ewF]; simp [World.setCell]
            have := q.2
            simp only [setRow_size]
            omega
      · rcases hk with q | q
        · exact ⟨HLO.out k q, by have := (h.out.lt k q).2; have := hoF.out.size; have := hbq.size; simp only [setRow_size]; omega⟩
        · exact ⟨by omega, q.2⟩
    · exact (hoF.out.trans' (Out.of_below hbq)).trans ((out_setRow wq w.heap.size sv).mono fun k hk => .inr ⟨by omega, by subst hk; have := hszW.out; have := HOW.out.size; have := (hoF.out.trans' (Out.of_below hbq)).size; have := hRF.out; have hz9 := (Array.getElem?_eq_some_iff.1 hRF.out).1; have := hbq.size; omega⟩)
theorem want_any (h : CliAt w B p K x O) (hB : B ≤ w.heap.size) (hC : ∀ w', Below B w w' → CfgAt w' K.c K.A K.B) (hf : formedB K.c = true) (hca : K.c.reps.length ≤ K.ca) (ht : x.turn < 60) (g : Nat) (key : ByteArray) (st : Nat) (hg : g < K.c.reps.length) (hn : x.num ≤ 1000000) (ha : x.asks.length ≤ 100) :
    Calls Tryz.prog 39 #[.pointer (some ⟨p, 0, none⟩), .int .i64 (g : Int), .string key, .int .u64 (st : Int)] w (CliPost w B p K O (.agg (sentX K.c (wantD x g key st) (askD x g key st)).vs) (wantD x g key st)) := by
  obtain ⟨vr, vw, va, vk, h⟩ := h
  exact (want_v ⟨vr, vw, va, h⟩ hB hC hf hca ht g key st hg hn ha).mono fun _ _ ⟨e, h, ho⟩ => ⟨e, h.toAt, ho⟩
end
end Go.Proofs.YtjgloipgnnigmaaGreatDoor
/- The client's Read. -/
namespace Go.Proofs.YtjgloipgnnigmaaGreatDoor
open Go.RowKit Go.Shelf Go.Sort

theorem own_one {w : World} {base g : Nat} {cs : Array Value} {t : TypeId} {k : Nat} (h : w.heap[g]? = some (.cells cs t (0, 0))) (hs : cs.size = k) (hb : base ≤ g) : w.ownsRow base t k (.slice (some ⟨g, 0, none⟩) 1 1) 1 cs.toList :=
  ⟨by simp [hs], .inr ⟨g, 1, cs, rfl, hb, h, Nat.le_refl _, by unfold maxLen; omega, by omega, by rw [List.take_of_length_le (by simp [hs])]⟩⟩
/-- A method's end that sends: what it sends, the client behind it. -/
def SndPost (w : World) (B p : Nat) (K : CliK) (O : Nat → Prop) (x : CliD) (d : List SndD) (er : Int) (e : Ending) (w' : World) : Prop :=
  ∃ v l, e = .returned (.tuple #[v, .int .i64 er]) ∧ SndsAt w' w.heap.size v l d ∧ CliAt w' B p K x (ext O w w') ∧ Out O w w'
section
variable {w : World} {B p : Nat} {K : CliK} {x : CliD} {O : Nat → Prop}
theorem snd_none {w' : World} {d : List SndD} {er : Int} {y : CliD} {z : Int} (h : CliAt w B p K x O) (hB : B ≤ w.heap.size) (hb : Below w.heap.size w w') (hd : d = []) (hy : y = x) (hz : er = z) : SndPost w B p K O y d er (.returned (.tuple #[.slice none 0 0, .int .i64 z])) w' := by
  subst hd hy hz
  exact ⟨_, [], rfl, SndsAt.nil _ _, h.stay hb hB, Out.of_below hb⟩
theorem CliAt.lt' (h : CliAt w B p K x O) : ∀ k, O k → B ≤ k ∧ k < w.heap.size := by
  obtain ⟨vr, vw, va, vk, h⟩ := h
  exact h.lt
/-- A client behind a call within a call: its blocks, said of the outer call's world. -/
theorem CliAt.wide {w0 w1 w2 w3 : World} (h : CliAt w2 B p K x (ext O w1 w2)) (h01 : w0.heap.size ≤ w1.heap.size) (h12 : w1.heap.size ≤ w2.heap.size) (hb : Below w2.heap.size w2 w3) (hlt : ∀ k, O k → B ≤ k ∧ k < w0.heap.size) (hB : B ≤ w0.heap.size) : CliAt w3 B p K x (ext O w0 w3) := by
  obtain ⟨vr, vw, va, vk, h⟩ := h.later hb
  have hs := hb.size
  exact ⟨vr, vw, va, vk, h.mono (fun k hk => hk.elim .inl (fun q => .inr ⟨by omega, by omega⟩)) (fun k hk => hk.elim (fun q => ⟨(hlt k q).1, by have := (hlt k q).2; omega⟩) (fun q => ⟨by omega, q.2⟩))⟩
set_option maxRecDepth 100000 in
set_option maxHeartbeats 4000000 in
theorem read_any {N : Nat} (h : CliAt w B p K x O) (hB : B ≤ w.heap.size) (hC : ∀ w', Below B w w' → CfgAt w' K.c K.A K.B) (hf : formedB K.c = true) (hca : K.c.reps.length ≤ K.ca) (hI : CliInv K.c N x) (hN : N ≤ 1000000) (key : ByteArray) (hk : key.size ≤ maxLen) :
    Calls Tryz.prog 10 #[.pointer (some ⟨p, 0, none⟩), .string key] w (SndPost w B p K O (readD K.c x key) (readL K.c x key) (readE x key)) := by
  by_cases s1 : x.state = 1
  · have q1 : ((x.state : Int) == 1) = true := by rw [beq_iff_eq]; omega
    obtain ⟨fk, hfk⟩ : ∃ b, keyB key = b := ⟨_, rfl⟩
    cases fk
    · have HR : Hid (readK x key = 1) := by show _ = _; simp [readK, s1, hfk]
      have HP : Hid (∀ w', Below w.heap.size w w' → SndPost w B p K O (readD K.c x key) (readL K.c x key) (readE x key) (.returned (.tuple #[.slice none 0 0, .int .i64 2])) w') := fun w' hb => snd_none h hB hb (by simp [readL, HR.out]) (by simp [readD, HR.out]) (by simp [readE, HR.out])
      replace hfk := Lib.hid hfk
      clear s1 hI
      go_enter Tryz.func10, Tryz.ntmps10
      go_wp2_with (first
        | (go_at_call 35; refine (in_any h 1 true q1).mono ?_; rintro e w1 ⟨rfl, rfl⟩)
        | (go_at_call 36; refine (calls_few hfk.out (key_any key _ hk)).mono ?_; rintro e w2 ⟨rfl, hb⟩))
      go_ret2
      exact HP.out _ hb
    · obtain ⟨fh, hfh⟩ : ∃ b, hasD x key = b := ⟨_, rfl⟩
      have hl1 := hI.rn
      have hl2 := hI.an
      cases fh
      · by_cases s6 : 6 ≤ x.rds.length + x.asks.length
        · have HR : Hid (readK x key = 3) := by show _ = _; simp [readK, s1, hfk, hfh, s6]
          have HP : Hid (∀ w', Below w.heap.size w w' → SndPost w B p K O (readD K.c x key) (readL K.c x key) (readE x key) (.returned (.tuple #[.slice none 0 0, .int .i64 3])) w') := fun w' hb => snd_none h hB hb (by simp [readL, HR.out]) (by simp [readD, HR.out]) (by simp [readE, HR.out])
          have hs6 : decide ((6 : Int) ≤ (x.rds.length : Int) + (x.asks.length : Int)) = true := by rw [decide_eq_true_iff]; omega
          have hsw : IntKind.i64.wrap ((x.rds.length : Int) + (x.asks.length : Int)) = (x.rds.length : Int) + (x.asks.length : Int) := IntWalk.i64_in _ (by omega)
          replace hfk := Lib.hid hfk
          replace hfh := Lib.hid hfh
          clear s1 hI s6
          go_enter Tryz.func10, Tryz.ntmps10
          go_wp2_with (first
          | (go_at_call 35; refine (in_any h 1 true q1).mono ?_; rintro e w1 ⟨rfl, rfl⟩)
          | (go_at_call 36; refine (calls_few hfk.out (key_any key _ hk)).mono ?_; rintro e w2 ⟨rfl, hb⟩; have hh2 := h.later hb)
          | (go_at_call 37; refine (calls_few hfh.out (has_any hh2 key hl1 hl2)).mono ?_; rintro e w3 ⟨rfl, hb3⟩; obtain ⟨vr, vw, va, vk, h3⟩ := hh2.later hb3; obtain ⟨c0, c1, _, _, _, _, _, _, c8, _, c10, _⟩ := h3.cs; obtain ⟨A8, cap8, e8, _⟩ := own_rds h3.rowr; obtain ⟨A10, cap10, e10, _⟩ := own_asks h3.rowa; subst e8 e10; have h3c : CliAt w3 B p K x O := ⟨_, _, _, _, h3⟩; replace h3c := Lib.hid h3c; clear h3))
          go_quiet (fail)
          go_wp2
          go_ret2
          exact HP.out _ (below_drewN (keepB hb hb3) _)
        · have hs6 : decide ((6 : Int) ≤ (x.rds.length : Int) + (x.asks.length : Int)) = false := by rw [decide_eq_false_iff_not]; omega
          have hsw : IntKind.i64.wrap ((x.rds.length : Int) + (x.asks.length : Int)) = (x.rds.length : Int) + (x.asks.length : Int) := IntWalk.i64_in _ (by omega)
          have hwn := hI.wn
          have hwr := hI.wr
          obtain ⟨fa, hfa⟩ : ∃ b, atK x.wrs key = b := ⟨_, rfl⟩
          obtain ⟨lk, hlk⟩ : ∃ k, Hid (lowK x.wrs key = k) := ⟨_, rfl⟩
          have HSe : Hid (∀ wz, CliAt wz B p K x O → Calls Tryz.prog 38 #[.pointer (some ⟨p, 0, none⟩), .string key] wz (SrchPost wz lk fa)) := fun wz hz => by
            have := wrote_any hz key hwr hwn
            rwa [hlk.out, hfa] at this
          cases fa
          · have HR : Hid (readK x key = 4) := by show _ = _; simp [readK, s1, hfk, hfh, s6, hfa]
            have hng : homeN K.c key < K.c.reps.length := by
              have := leTo_le K.c.bnds key K.c.bnds.length
              have := formed_len hf
              unfold homeN; omega
            have hnum := hI.nm
            have htn := hI.tn
            have HW : Hid (∀ wz O', CliAt wz B p K x O' → Below B w wz → Calls Tryz.prog 39 #[.pointer (some ⟨p, 0, none⟩), .int .i64 (homeN K.c key : Int), .string key, .int .u64 0] wz (CliPost wz B p K O' (.agg (sentX K.c (wantD x (homeN K.c key) key 0) (askD x (homeN K.c key) key 0)).vs) (wantD x (homeN K.c key) key 0))) := fun wz O' hz hz2 =>
              want_any hz (Nat.le_trans hB hz2.size) (fun w' hb => hC w' (hz2.trans hb)) hf hca htn (homeN K.c key) key 0 hng (by omega) (by omega)
            have HH : Hid (∀ wz, CfgAt wz K.c K.A K.B → Calls Tryz.prog 40 #[K.cv, .string key] wz fun e w' => e = .returned (.int .i64 (homeN K.c key : Int)) ∧ Below wz.heap.size wz w') := fun wz hz => by
              have := home_any K.c key K.A K.B K.ca K.cb wz hz
              rwa [homeZ, if_pos hf] at this
            replace hfk := Lib.hid hfk
            replace hfh := Lib.hid hfh
            replace hfa := Lib.hid hfa
            replace hwr := Lib.hid hwr
            replace hC := Lib.hid hC
            clear s1 hI s6 hng hnum htn
            go_enter Tryz.func10, Tryz.ntmps10
            go_wp2_with (first
          | (go_at_call 35; refine (in_any h 1 true q1).mono ?_; rintro e w1 ⟨rfl, rfl⟩)
          | (go_at_call 36; refine (calls_few hfk.out (key_any key _ hk)).mono ?_; rintro e w2 ⟨rfl, hb⟩; have hh2 := h.later hb)
          | (go_at_call 37; refine (calls_few hfh.out (has_any hh2 key hl1 hl2)).mono ?_; rintro e w3 ⟨rfl, hb3⟩; obtain ⟨vr, vw, va, vk, h3⟩ := hh2.later hb3; obtain ⟨c0, c1, _, _, _, _, _, _, c8, _, c10, _⟩ := h3.cs; obtain ⟨A8, cap8, e8, _⟩ := own_rds h3.rowr; obtain ⟨A10, cap10, e10, _⟩ := own_asks h3.rowa; subst e8 e10; have h3c : CliAt w3 B p K x O := ⟨_, _, _, _, h3⟩; replace h3c := Lib.hid h3c; clear h3))
            go_quiet (fail)
            go_wp2_with (first
              | (go_at_call 38; refine (HSe.out _ (h3c.out.later (below_drewN (Below.refl _ _) _))).mono ?_; rintro e w5 ⟨rfl, hb5⟩; have hb4 := Lib.hid (keepB (keepB (keepB hb hb3) (below_drewN (Below.refl _ _) _)) hb5); have h5 := Lib.hid (h3c.out.later (keepB (below_drewN (Below.refl _ _) _) hb5)); replace c0 := keep hb5 (keep (below_drewN (Below.refl _ _) _) c0); replace c1 := keep hb5 (keep (below_drewN (Below.refl _ _) _) c1))
              | (go_at_call 40; refine (HH.out _ (hC.out _ (hb4.out.mono hB))).mono ?_; rintro e w6 ⟨rfl, hb6⟩; have hb7 := Lib.hid (keepB hb4.out hb6); have h6 := Lib.hid (h5.out.later hb6))
              | (go_at_call 39; refine (HW.out _ _ h6.out (hb7.out.mono hB)).mono ?_; rintro e w8 ⟨rfl, hA8, ho8⟩; replace hA8 := Lib.hid hA8; replace ho8 := Lib.hid ho8)
              | (refine wpList_buildSlice1 rfl 50 81 _ rfl _ rfl _ Tryz.underlying50 info_snd (by rw [snd_size]; omega) (by rw [snd_size]; omega) (zero_snd _) ?_; obtain ⟨w9, e9, hb9, hs9, hr9⟩ := boxed w8 (sentX K.c (wantD x (homeN K.c key) key 0) (askD x (homeN K.c key) key 0)).vs 81; rw [e9]))
            go_ret2
            refine ⟨.slice (some ⟨w8.heap.size, 0, none⟩) 1 1, [sentX K.c (wantD x (homeN K.c key) key 0) (askD x (homeN K.c key) key 0)], ?_, ⟨?_, ?_, ?_, ?_⟩, ?_, ?_⟩
            · rw [show readE x key = 0 by simp [readE, HR.out]]; rfl
            · have := own_one (base := w.heap.size) hr9 (snd_size _) (by have := hb7.out.size; have := ho8.out.size; omega)
              simpa [sndCells] using this
            · rw [show readL K.c x key = [sentD K.c x (askD x (homeN K.c key) key 0)] by simp [readL, HR.out]]
              exact .cons (sentX_is _ (wantD x (homeN K.c key) key 0) _) .nil
            · intro s hs
              rw [List.mem_singleton.1 hs]
              exact sentX_lies _ _ _ _ (by show key.size ≤ _; unfold maxLen at hk; exact hk)
            · intro s hs
              rw [List.mem_singleton.1 hs]
              exact FreshM.all fun wz => sentX_lies _ _ _ _ (by show key.size ≤ _; unfold maxLen at hk; exact hk)
            · rw [show readD K.c x key = wantD x (homeN K.c key) key 0 by simp [readD, HR.out]]
              exact hA8.out.wide hb7.out.size ho8.out.size hb9 h.lt' hB
            · exact ((Out.of_below hb7.out).trans' ho8.out).trans' (Out.of_below hb9)
          · have HR : Hid (readK x key = 2) := by show _ = _; simp [readK, s1, hfk, hfh, s6, hfa]
            have HP : Hid (∀ w', Below w.heap.size w w' → SndPost w B p K O (readD K.c x key) (readL K.c x key) (readE x key) (.returned (.tuple #[.slice none 0 0, .int .i64 0])) w') := fun w' hb => snd_none h hB hb (by simp [readL, HR.out]) (by simp [readD, HR.out]) (by simp [readE, HR.out])
            replace hfk := Lib.hid hfk
            replace hfh := Lib.hid hfh
            replace hfa := Lib.hid hfa
            replace hwr := Lib.hid hwr
            clear s1 hI s6
            go_enter Tryz.func10, Tryz.ntmps10
            go_wp2_with (first
          | (go_at_call 35; refine (in_any h 1 true q1).mono ?_; rintro e w1 ⟨rfl, rfl⟩)
          | (go_at_call 36; refine (calls_few hfk.out (key_any key _ hk)).mono ?_; rintro e w2 ⟨rfl, hb⟩; have hh2 := h.later hb)
          | (go_at_call 37; refine (calls_few hfh.out (has_any hh2 key hl1 hl2)).mono ?_; rintro e w3 ⟨rfl, hb3⟩; obtain ⟨vr, vw, va, vk, h3⟩ := hh2.later hb3; obtain ⟨c0, c1, _, _, _, _, _, _, c8, _, c10, _⟩ := h3.cs; obtain ⟨A8, cap8, e8, _⟩ := own_rds h3.rowr; obtain ⟨A10, cap10, e10, _⟩ := own_asks h3.rowa; subst e8 e10; have h3c : CliAt w3 B p K x O := ⟨_, _, _, _, h3⟩; replace h3c := Lib.hid h3c; clear h3))
            go_quiet (fail)
            go_wp2_with (first
              | (go_at_call 38; refine (HSe.out _ (h3c.out.later (below_drewN (Below.refl _ _) _))).mono ?_; rintro e w5 ⟨rfl, hb5⟩; have hb4 := Lib.hid (keepB (keepB (keepB hb hb3) (below_drewN (Below.refl _ _) _)) hb5)))
            go_ret2
            exact HP.out _ hb4.out
      · have HR : Hid (readK x key = 2) := by show _ = _; simp [readK, s1, hfk, hfh]
        have HP : Hid (∀ w', Below w.heap.size w w' → SndPost w B p K O (readD K.c x key) (readL K.c x key) (readE x key) (.returned (.tuple #[.slice none 0 0, .int .i64 0])) w') := fun w' hb => snd_none h hB hb (by simp [readL, HR.out]) (by simp [readD, HR.out]) (by simp [readE, HR.out])
        replace hfk := Lib.hid hfk
        replace hfh := Lib.hid hfh
        clear s1 hI
        go_enter Tryz.func10, Tryz.ntmps10
        go_wp2_with (first
          | (go_at_call 35; refine (in_any h 1 true q1).mono ?_; rintro e w1 ⟨rfl, rfl⟩)
          | (go_at_call 36; refine (calls_few hfk.out (key_any key _ hk)).mono ?_; rintro e w2 ⟨rfl, hb⟩; have hh2 := h.later hb)
          | (go_at_call 37; refine (calls_few hfh.out (has_any hh2 key hl1 hl2)).mono ?_; rintro e w3 ⟨rfl, hb3⟩))
        go_ret2
        exact HP.out _ (keepB hb hb3)
  · have q1 : ((x.state : Int) == 1) = false := by rw [beq_eq_false_iff_ne]; omega
    have HR : Hid (readK x key = 0) := by show _ = _; simp [readK, s1]
    have HP : Hid (∀ w', Below w.heap.size w w' → SndPost w B p K O (readD K.c x key) (readL K.c x key) (readE x key) (.returned (.tuple #[.slice none 0 0, .int .i64 11])) w') := fun w' hb => snd_none h hB hb (by simp [readL, HR.out]) (by simp [readD, HR.out]) (by simp [readE, HR.out])
    clear s1 hI
    go_enter Tryz.func10, Tryz.ntmps10
    go_wp2_with (go_at_call 35; refine (in_any h 1 false q1).mono ?_; rintro e w1 ⟨rfl, rfl⟩)
    go_ret2
    exact HP.out _ (Below.refl _ _)
end
end Go.Proofs.YtjgloipgnnigmaaGreatDoor
/- The client's Abort and over. -/
namespace Go.Proofs.YtjgloipgnnigmaaGreatDoor
open Go.RowKit Go.Shelf Go.Sort

section
variable {w : World} {B p : Nat} {K : CliK} {x : CliD} {O : Nat → Prop}
theorem abort_any (h : CliAt w B p K x O) (hB : B ≤ w.heap.size) : Calls Tryz.prog 16 #[.pointer (some ⟨p, 0, none⟩)] w (CliPost w B p K O (.int .i64 (abortE x)) (abortD x)) := by
  by_cases s1 : x.state = 1
  · have q1 : ((x.state : Int) == 1) = true := by rw [beq_iff_eq]; omega
    have HE : Hid (abortE x = 0 ∧ abortD x = restD x) := by show _ ∧ _; simp [abortE, abortD, s1]
    clear s1
    go_enter Tryz.func16, Tryz.ntmps16
    go_wp2_with (first
      | (go_at_call 35; refine (in_any h 1 true q1).mono ?_; rintro e w1 ⟨rfl, rfl⟩)
      | (go_at_call 41; refine (rest_any h hB).mono ?_; rintro e w2 ⟨rfl, hA, ho⟩))
    go_ret
    rw [HE.out.1, HE.out.2]
    exact ⟨rfl, hA, ho⟩
  · have q1 : ((x.state : Int) == 1) = false := by rw [beq_eq_false_iff_ne]; omega
    have HE : Hid (abortE x = 11 ∧ abortD x = x) := by show _ ∧ _; simp [abortE, abortD, s1]
    clear s1
    go_enter Tryz.func16, Tryz.ntmps16
    go_wp2_with (first
      | (go_at_call 35; refine (in_any h 1 false q1).mono ?_; rintro e w1 ⟨rfl, rfl⟩))
    go_ret
    rw [HE.out.1, HE.out.2]
    exact ⟨rfl, cli_same h hB rfl⟩
set_option maxRecDepth 100000 in
set_option maxHeartbeats 2000000 in
theorem over_any (h : CliAt w B p K x O) (hB : B ≤ w.heap.size) (er : Int) : Calls Tryz.prog 105 #[.pointer (some ⟨p, 0, none⟩), .int .i64 er] w (CliPost w B p K O (.agg (overEv K.ses x er).vs) (restD x)) := by
  obtain ⟨W, eW, HB, hszW, hrW⟩ := boxed w #[.int .i64 0, .int .i64 0, .int .i64 0, .string ⟨#[]⟩, .int .i64 0, .int .u64 0, .string ⟨#[]⟩, .int .u64 0, .bool false, .int .u64 0, .int .i64 0] 71
  have hW := h.later HB
  have H0 := Lib.hid hW
  obtain ⟨vr, vw, va, vk, hW⟩ := hW
  obtain ⟨_, _, c2, _, _, _, _, _, _, _, _, _, c12⟩ := hW.cs
  have c2b := keepA (.cells #[.int .i64 0, .int .i64 0, .int .i64 0, .string ⟨#[]⟩, .int .i64 0, .int .u64 0, .string ⟨#[]⟩, .int .u64 0, .bool false, .int .u64 0, .int .i64 0] 71) c2
  have c12b := keepA (.cells #[.int .i64 0, .int .i64 0, .int .i64 0, .string ⟨#[]⟩, .int .i64 0, .int .u64 0, .string ⟨#[]⟩, .int .u64 0, .bool false, .int .u64 0, .int .i64 0] 71) c12
  have hBW := HB.size
  have HR := Lib.hid hrW
  have nR : Hid (¬ O w.heap.size) := fun e => by have := (h.lt' _ e).2; omega
  have nE : Hid (¬ O W.heap.size) := fun e => by have := (h.lt' _ e).2; omega
  replace hszW := Lib.hid hszW
  clear hrW hW
  go_enter Tryz.func105, Tryz.ntmps105
  go_wp2
  go_region
  change Exit.then _ _ _ _ (World.drew (World.alloc W (.cells (overEv K.ses x er).vs 71)))
  obtain ⟨w3, e3, hb3, hr3⟩ : ∃ w3, World.drew (World.alloc W (.cells (overEv K.ses x er).vs 71)) = w3 ∧ Below W.heap.size W w3 ∧ w3.heap[W.heap.size]? = some (.cells (overEv K.ses x er).vs 71 (0, 0)) := ⟨_, rfl, below_drew (below1 _ _), heap_alloc_new W _⟩
  rw [e3]
  clear e3
  have hHW := Lib.hid (H0.out.later hb3)
  have hb4 := Lib.hid (keepB HB hb3)
  have HRe := Lib.hid (rest_any hHW.out (Nat.le_trans hB hb4.out.size))
  go_wp2_with (first
    | (go_at_call 41; refine HRe.out.mono ?_; rintro e w4 ⟨rfl, hA4, ho4⟩; replace hA4 := Lib.hid hA4; have hE4 := Lib.hid (ho4.obj hr3 nE.out); have hR4 := Lib.hid (ho4.obj (obj_keep HR.out hb3) nR.out); replace ho4 := Lib.hid ho4)
    | (refine wpList_load_cells rfl 71 _ rfl ⟨W.heap.size, 0, none⟩ rfl (overEv K.ses x er).vs _ (row_of_obj hE4.out) Tryz.underlying71 rfl info_ev ?_)
    | (refine wpList_store_row rfl 71 _ _ rfl w.heap.size (overEv K.ses x er).vs rfl rfl 71 _ hR4.out info_ev rfl (ev_one _) ?_))
  refine bodyPost_ret (v := .agg (overEv K.ses x er).vs) (results_cell_row rfl _ _ w.heap.size _ (overEv K.ses x er).vs _ _ rfl (setRow_heap _ _ _ _ _ _ hR4.out) Tryz.underlying71 rfl info_ev) rfl ⟨rfl, ?_, ?_⟩
  · have hsz := hszW.out
    have hA := hA4.out.out (out_setRow w4 w.heap.size (overEv K.ses x er).vs) (fun k hk e => by
      subst e
      rcases hk with q | q
      · exact nR.out q
      · have := hb3.size; have := q.1; omega)
    obtain ⟨a1, a2, a3, a4, hA⟩ := hA
    have hlt := h.lt'
    have hs4 := ho4.out.size
    have hs3 := hb4.out.size
    exact ⟨_, _, _, _, hA.mono (fun k hk => hk.elim .inl (fun q => .inr ⟨by omega, by have := q.2; simp only [setRow_size]; omega⟩)) (fun k hk => hk.elim (fun q => ⟨(hlt k q).1, by have := (hlt k q).2; simp only [setRow_size]; omega⟩) (fun q => ⟨by omega, q.2⟩))⟩
  · have hz := (Array.getElem?_eq_some_iff.1 hR4.out).1
    exact ((Out.of_below hb4.out).trans' ho4.out).trans ((out_setRow w4 w.heap.size _).mono fun k hk => .inr ⟨by omega, by subst hk; exact hz⟩)
end
end Go.Proofs.YtjgloipgnnigmaaGreatDoor
/- The client's answered, where nothing is answered. -/
namespace Go.Proofs.YtjgloipgnnigmaaGreatDoor
open Go.RowKit Go.Shelf Go.Sort

theorem cellsAsk {w : World} {g : Nat} {a b c d : Value} {t : TypeId} (h : w.heap[g]? = some (.cells #[a, b, c, d] t (0, 0))) :
    (w.cell? ⟨g, 0, none⟩ = some a ∧ w.cell? ⟨g, 1, none⟩ = some b ∧ w.cell? ⟨g, 2, none⟩ = some c ∧ w.cell? ⟨g, 3, none⟩ = some d) ∧ w.frozen? ⟨g, 0, none⟩ = false ∧ w.frozen? ⟨g, 1, none⟩ = false ∧ w.frozen? ⟨g, 2, none⟩ = false ∧ w.frozen? ⟨g, 3, none⟩ = false := by
  refine ⟨⟨?_, ?_, ?_, ?_⟩, frozen_of_row w g _ _ _ h, frozen_of_row w g _ _ _ h, frozen_of_row w g _ _ _ h, frozen_of_row w g _ _ _ h⟩ <;> (rw [cell_of_row w g _ _ _ _ h]; rfl)
/-- Two results: a struct's block, a slot. -/
theorem results_cell_tmp {P : Program} {fn : Func} {p u : Tmp} {ty : TypeId} (h : fn.results = #[.cell p ty, .tmp u]) (tmps : Array Value) (w : World) (g : Nat) (t : TypeId) (cs : Array Value) (fr : Nat × Nat) (d : TypeDesc)
    (hp : tmps.getD p undef = .pointer (some ⟨g, 0, none⟩)) (hg : w.heap[g]? = some (.cells cs t fr))
    (hu : P.underlying ty = some d) (hd : (match d with | .struct _ | .array _ _ => true | _ => false) = true) (hi : (P.info? ty).map (·.size) = some cs.size) :
    (results fn tmps).run P w = .ok (.tuple #[.agg cs, tmps.getD u undef]) w := by
  have hp' : tmps[p]?.getD undef = .pointer (some ⟨g, 0, none⟩) := by simpa using hp
  simp [results, h, hp', asAddr, run_loadVar_row w g t ty cs fr d hg hu hd hi]
theorem ask_fin {w : World} {g : Nat} {a b d : Value} {c : Value} {t : TypeId} (h : w.heap[g]? = some (.cells #[.int .i64 0, .int .i64 0, .string ⟨#[]⟩, .int .u64 0] t (0, 0))) :
    ((((w.setCell ⟨g, 0, none⟩ a).setCell ⟨g, 1, none⟩ b).setCell ⟨g, 2, none⟩ c).setCell ⟨g, 3, none⟩ d).heap[g]? = some (.cells #[a, b, c, d] t (0, 0)) := by
  rw [blk_set21 _ (blk_set21 _ (blk_set21 _ (blk_set21 _ h)))]; rfl
theorem info_ask1 : (Tryz.prog.info? 103).map (·.size) = some 4 := by kernel_rfl
section
variable {w : World} {B p : Nat} {K : CliK} {x : CliD} {O : Nat → Prop}
set_option maxRecDepth 100000 in
set_option maxHeartbeats 2000000 in
theorem answered_no (h : CliAt w B p K x O) (ha : x.asks.length ≤ 6) (m : MsgV) (hK : answB x m = false) :
    Calls Tryz.prog 46 #[.pointer (some ⟨p, 0, none⟩), .agg m.vs] w fun e w' => e = .returned (.tuple #[.agg #[.int .i64 0, .int .i64 0, .string noStr, .int .u64 0], .bool false]) ∧ Below w.heap.size w w' := by
  obtain ⟨W0, eW0, HB0, hsz0, hr0⟩ := boxed w m.vs 43
  obtain ⟨W, eW, HBa, hszA, hrA⟩ := boxed W0 #[.int .i64 0, .int .i64 0, .string ⟨#[]⟩, .int .u64 0] 103
  obtain ⟨⟨e0, e1, e2, e3⟩, y0, y1, y2, y3⟩ := cellsAsk hrA
  replace hszA := Lib.hid hszA
  have HRA := Lib.hid hrA
  clear hrA
  have HB := keepB HB0 HBa
  have hr := obj_keep hr0 HBa
  obtain ⟨c0, c1, c2, c3, c4, c5, c6, c7, c8, c9, c10, c11, c12, c13, c14, c15, c16, c17, c18, c19, c20, c21, c22, c23, c24, c25, c26, c27, c28, c29, c30, c31, c32, c33⟩ := msg_cs hr
  clear c0 c1 c2 c3 c4 c5 c6 c7 c8 c9 c10 c11 c12 c13 c14 c15 c16 c17 c18 c19 c20 c21 c22 c23 c24 c25 c26 c27 c28 c29 c30 c31 c33 hr0
  obtain ⟨vr, vw, va, vk, hW⟩ := h.later HB
  obtain ⟨_, _, _, d3, _, _, _, _, _, _, d10, _⟩ := hW.cs
  obtain ⟨A10, cap10, e10, _, hA10, _⟩ := own_asks hW.rowa
  subst e10
  clear hW
  replace hsz0 := Lib.hid hsz0
  obtain ⟨k, hk⟩ : ∃ k, Hid (x.asks.findIdx (askP m.num m.key) = k) := ⟨_, rfl⟩
  have HI : Hid (∀ wz, Below W.heap.size W wz → Calls Tryz.prog 99 #[.slice A10 x.asks.length cap10, .func (.func 100) #[] #[.pointer (some ⟨w.heap.size, 0, none⟩)]] wz (IdxPost21 wz x.asks.length k)) := fun wz hb => by
    have := idxN_any x.asks A10 cap10 m _ w.heap.size wz (hA10.later hb) (obj_keep hr hb) (by omega)
    rwa [hk.out] at this
  have hb0 : answB x m = (decide (k < x.asks.length) && !(decide (x.state = 1) && decide (m.err ≠ 0))) := by rw [answB, answK, hk.out]
  rw [hb0] at hK
  by_cases hkl : k < x.asks.length
  · have hs : x.state = 1 ∧ m.err ≠ 0 := by simpa [hkl] using hK
    have q1 : ((x.state : Int) == 1) = true := by rw [beq_iff_eq]; omega
    have q2 : (m.err != 0) = true := by rw [bne_iff_ne]; exact hs.2
    have HX : Hid (∀ wz e w', IdxPost21 wz x.asks.length k e w' → e = .returned (.int .i64 (k : Int)) ∧ Below wz.heap.size wz w') := by
      intro wz e w' hp
      have := hp
      simp only [IdxPost21, if_pos hkl] at this
      exact this
    have q0 : decide ((k : Int) < 0) = false := by rw [decide_eq_false_iff_not]; omega
    clear hK hb0 hs
    go_enter Tryz.func46, Tryz.ntmps46
    go_wp2_with (go_at_call 99; refine (HI.out _ (Below.refl _ _)).mono ?_; intro e w1 hp; obtain ⟨rfl, hb⟩ := HX.out _ _ _ hp; clear hp; replace c32 := keep hb c32; replace d3 := keep hb d3; replace e0 := keep hb e0; replace e1 := keep hb e1; replace e2 := keep hb e2; replace e3 := keep hb e3; replace HRA := Lib.hid (obj_keep HRA.out hb); obtain ⟨-, y0, y1, y2, y3⟩ := cellsAsk HRA.out)
    refine bodyPost_ret (v := .tuple #[.agg #[.int .i64 0, .int .i64 0, .string noStr, .int .u64 0], .bool false]) (results_cell_tmp (p := 4) (u := 5) rfl _ _ W0.heap.size _ #[.int .i64 0, .int .i64 0, .string noStr, .int .u64 0] (0, 0) _ rfl (ask_fin HRA.out) Tryz.underlying103 rfl info_ask1) rfl ⟨rfl, ?_⟩
    exact Below.setCell (p := ⟨W0.heap.size, 3, none⟩) (Below.setCell (p := ⟨W0.heap.size, 2, none⟩) (Below.setCell (p := ⟨W0.heap.size, 1, none⟩) (Below.setCell (p := ⟨W0.heap.size, 0, none⟩) (keepB HB hb) HB0.size _) HB0.size _) HB0.size _) HB0.size _
  · have HX : Hid (∀ wz e w', IdxPost21 wz x.asks.length k e w' → e = .returned (.int .i64 (-1)) ∧ Below wz.heap.size wz w') := by
      intro wz e w' hp
      have := hp
      simp only [IdxPost21, if_neg hkl] at this
      exact this
    clear hK hb0
    go_enter Tryz.func46, Tryz.ntmps46
    go_wp2_with (go_at_call 99; refine (HI.out _ (Below.refl _ _)).mono ?_; intro e w1 hp; obtain ⟨rfl, hb⟩ := HX.out _ _ _ hp; clear hp; replace c32 := keep hb c32; replace d3 := keep hb d3; replace e0 := keep hb e0; replace e1 := keep hb e1; replace e2 := keep hb e2; replace e3 := keep hb e3; replace HRA := Lib.hid (obj_keep HRA.out hb); obtain ⟨-, y0, y1, y2, y3⟩ := cellsAsk HRA.out)
    refine bodyPost_ret (v := .tuple #[.agg #[.int .i64 0, .int .i64 0, .string noStr, .int .u64 0], .bool false]) (results_cell_tmp (p := 4) (u := 5) rfl _ _ W0.heap.size _ #[.int .i64 0, .int .i64 0, .string noStr, .int .u64 0] (0, 0) _ rfl (ask_fin HRA.out) Tryz.underlying103 rfl info_ask1) rfl ⟨rfl, ?_⟩
    exact Below.setCell (p := ⟨W0.heap.size, 3, none⟩) (Below.setCell (p := ⟨W0.heap.size, 2, none⟩) (Below.setCell (p := ⟨W0.heap.size, 1, none⟩) (Below.setCell (p := ⟨W0.heap.size, 0, none⟩) (keepB HB hb) HB0.size _) HB0.size _) HB0.size _) HB0.size _
end
end Go.Proofs.YtjgloipgnnigmaaGreatDoor
/- The client's Commit. -/
namespace Go.Proofs.YtjgloipgnnigmaaGreatDoor
open Go.RowKit Go.Shelf Go.Sort

/-- What submits: a row of sends of the call's own, nothing else is changed. -/
def SubPost (w : World) (d : List SndD) (e : Ending) (w' : World) : Prop := ∃ v l, e = .returned v ∧ SndsAt w' w.heap.size v l d ∧ Below w.heap.size w w'
section
variable {w : World} {B p : Nat} {K : CliK} {x : CliD} {O : Nat → Prop}
set_option maxRecDepth 100000 in
set_option maxHeartbeats 2000000 in
theorem commit_any {N : Nat} (h : CliAt w B p K x O) (hB : B ≤ w.heap.size) (hI : CliInv K.c N x)
    (HSub : ∀ wz, CliAt wz B p K { x with state := 2 } O → Out O w wz → Calls Tryz.prog 42 #[.pointer (some ⟨p, 0, none⟩)] wz (SubPost wz (submitD K.c K.ses { x with state := 2 }))) :
    Calls Tryz.prog 11 #[.pointer (some ⟨p, 0, none⟩)] w (SndPost w B p K O (commitD x) (commitL K.c K.ses x) (commitE x)) := by
  have hl1 := hI.rn
  have hl2 := hI.an
  have hl3 := hI.wn
  clear hI
  have h0 := Lib.hid h
  obtain ⟨vr, vw, va, vk, h⟩ := h
  obtain ⟨_, _, _, _, _, _, _, _, c8, c9, c10, _⟩ := h.cs
  have f3 := h.fz 3
  obtain ⟨A8, cap8, e8, _⟩ := own_rds h.rowr
  obtain ⟨A9, cap9, e9, _⟩ := own_wrs h.roww
  obtain ⟨A10, cap10, e10, _⟩ := own_asks h.rowa
  subst e8 e9 e10
  have HI := Lib.hid h
  clear h
  by_cases s1 : x.state = 1
  · have q1 : ((x.state : Int) == 1) = true := by rw [beq_iff_eq]; omega
    by_cases sa : 0 < x.asks.length
    · have HR : Hid (commitK x = 0) := by show _ = _; simp [commitK, s1, sa]
      have HP : Hid (∀ w', Below w.heap.size w w' → SndPost w B p K O (commitD x) (commitL K.c K.ses x) (commitE x) (.returned (.tuple #[.slice none 0 0, .int .i64 11])) w') := fun w' hb => snd_none h0.out hB hb (by simp [commitL, HR.out]) (by simp [commitD, HR.out]) (by simp [commitE, HR.out])
      have qa : decide (0 < x.asks.length) = true := by rw [decide_eq_true_iff]; omega
      clear s1 sa
      go_enter Tryz.func11, Tryz.ntmps11
      go_wp2_with (go_at_call 35; refine (in_any h0.out 1 true q1).mono ?_; rintro e w1 ⟨rfl, rfl⟩)
      go_ret2
      exact HP.out _ (Below.refl _ _)
    · have qa : decide (0 < x.asks.length) = false := by rw [decide_eq_false_iff_not]; omega
      have hsw : IntKind.i64.wrap ((x.rds.length : Int) + (x.wrs.length : Int)) = (x.rds.length : Int) + (x.wrs.length : Int) := IntWalk.i64_in _ (by omega)
      by_cases sz : x.rds.length + x.wrs.length = 0
      · have HR : Hid (commitK x = 1) := by show _ = _; unfold commitK; rw [if_neg (by omega), if_pos sz]
        have qz : (((x.rds.length : Int) + (x.wrs.length : Int)) == 0) = true := by rw [beq_iff_eq]; omega
        have HP : Hid (∀ w', CliAt w' B p K (restD x) (ext O w w') → Out O w w' → SndPost w B p K O (commitD x) (commitL K.c K.ses x) (commitE x) (.returned (.tuple #[.slice none 0 0, .int .i64 0])) w') := fun w' ha ho => by
          have e1 : commitD x = restD x := by simp [commitD, HR.out]
          have e2 : commitL K.c K.ses x = [] := by simp [commitL, HR.out]
          have e3 : commitE x = 0 := by simp [commitE, HR.out]
          rw [e1, e2, e3]
          exact ⟨_, [], rfl, SndsAt.nil _ _, ha, ho⟩
        have HRest := Lib.hid (fun wz (hb : Below w.heap.size w wz) => rest_any (h0.out.later hb) (Nat.le_trans hB hb.size))
        have HLt := Lib.hid h0.out.lt'
        clear s1 sa sz
        go_enter Tryz.func11, Tryz.ntmps11
        go_wp2_with (first
          | (go_at_call 35; refine (in_any h0.out 1 true q1).mono ?_; rintro e w1 ⟨rfl, rfl⟩))
        go_quiet (fail)
        go_wp2_with (first
          | (go_at_call 41; refine (HRest.out _ (below_drewN (Below.refl _ _) _)).mono ?_; rintro e w2 ⟨rfl, hA, ho⟩))
        go_ret2
        exact HP.out _ (hA.wide (Nat.le_refl _) ho.size (Below.refl _ _) HLt.out hB) ((Out.of_below (below_drewN (Below.refl _ _) _)).trans' ho)
      · have HR : Hid (commitK x = 2) := by show _ = _; unfold commitK; rw [if_neg (by omega), if_neg sz]
        have qz : (((x.rds.length : Int) + (x.wrs.length : Int)) == 0) = false := by rw [beq_eq_false_iff_ne]; omega
        have HP : Hid (∀ w1 w' v l, CliAt w1 B p K { x with state := 2 } O → Out O w w1 → SndsAt w' w1.heap.size v l (submitD K.c K.ses { x with state := 2 }) → Below w1.heap.size w1 w' → SndPost w B p K O (commitD x) (commitL K.c K.ses x) (commitE x) (.returned (.tuple #[v, .int .i64 0])) w') := fun w1 w' v l ha ho hs hb => by
          have e1 : commitD x = { x with state := 2 } := by simp [commitD, HR.out]
          have e2 : commitL K.c K.ses x = submitD K.c K.ses { x with state := 2 } := by simp [commitL, HR.out]
          have e3 : commitE x = 0 := by simp [commitE, HR.out]
          rw [e1, e2, e3]
          obtain ⟨a1, a2, a3, a4, ha⟩ := ha.later hb
          exact ⟨v, l, rfl, ⟨World.ownsRow.mono hs.row ho.size, hs.is, hs.at_, fun s hs2 => (hs.fr s hs2).mono ho.size⟩, ⟨a1, a2, a3, a4, ha.widen (fun k hk => (h0.out.lt' k hk).2) hB⟩, ho.trans' (Out.of_below hb)⟩
        have HS3 := Lib.hid (fun wz (hb : Below w.heap.size w wz) => (HI.out.later hb).s3 2)
        have HO3 : Hid (∀ wz, Below w.heap.size w wz → Out O w (wz.setCell ⟨p, 3, none⟩ (.int .i64 2))) := fun wz hb => out_p HI.out.hp (Out.of_below hb)
        replace HSub := Lib.hid HSub
        clear s1 sa sz
        go_enter Tryz.func11, Tryz.ntmps11
        go_wp2_with (first
          | (go_at_call 35; refine (in_any h0.out 1 true q1).mono ?_; rintro e w1 ⟨rfl, rfl⟩))
        go_quiet (fail)
        go_wp2_with (first
          | (go_at_call 42; refine (HSub.out _ ⟨_, _, _, _, HS3.out _ (below_drewN (Below.refl _ _) _)⟩ (HO3.out _ (below_drewN (Below.refl _ _) _))).mono ?_; rintro e w2 ⟨v2, l2, rfl, hs2, hb2⟩))
        go_ret2
        exact HP.out _ _ _ _ ⟨_, _, _, _, HS3.out _ (below_drewN (Below.refl _ _) _)⟩ (HO3.out _ (below_drewN (Below.refl _ _) _)) hs2 hb2
  · have q1 : ((x.state : Int) == 1) = false := by rw [beq_eq_false_iff_ne]; omega
    have HR : Hid (commitK x = 0) := by show _ = _; simp [commitK, s1]
    have HP : Hid (∀ w', Below w.heap.size w w' → SndPost w B p K O (commitD x) (commitL K.c K.ses x) (commitE x) (.returned (.tuple #[.slice none 0 0, .int .i64 11])) w') := fun w' hb => snd_none h0.out hB hb (by simp [commitL, HR.out]) (by simp [commitD, HR.out]) (by simp [commitE, HR.out])
    clear s1
    go_enter Tryz.func11, Tryz.ntmps11
    go_wp2_with (go_at_call 35; refine (in_any h0.out 1 false q1).mono ?_; rintro e w1 ⟨rfl, rfl⟩)
    go_ret2
    exact HP.out _ (Below.refl _ _)
end
end Go.Proofs.YtjgloipgnnigmaaGreatDoor
/- slices.Clone of a row that is owned, at reads, writes and strings. -/
namespace Go.Proofs.YtjgloipgnnigmaaGreatDoor
open Go.RowKit Go.Shelf Go.Sort

theorem rdOne : ∀ (l : List Rd), ∀ u ∈ rdCells l, u.oneCell' = true := fun l u hu => by
  simp only [rdCells, List.mem_flatMap] at hu
  obtain ⟨x, _, hx⟩ := hu
  simp at hx; rcases hx with rfl | rfl <;> rfl
theorem wrOne : ∀ (l : List Wr), ∀ u ∈ wrCells l, u.oneCell' = true := fun l u hu => by
  simp only [wrCells, List.mem_flatMap] at hu
  obtain ⟨x, _, hx⟩ := hu
  simp at hx; rcases hx with rfl | rfl | rfl | rfl <;> rfl
theorem strOne : ∀ (l : List ByteArray), ∀ u ∈ l.map Value.string, u.oneCell' = true := fun l u hu => by
  obtain ⟨x, _, rfl⟩ := List.mem_map.1 hu
  rfl
theorem infoRd : (Tryz.prog.info? 75).map (fun i => (i.zero, i.size, i.bytes)) = some (some (.agg #[.string ByteArray.empty, .int .u64 0]), 2, 24) := by kernel_rfl
theorem infoWr : (Tryz.prog.info? 112).map (fun i => (i.zero, i.size, i.bytes)) = some (some (.agg #[.string ByteArray.empty, .int .i64 0, .int .u64 0, .string ByteArray.empty]), 4, 48) := by kernel_rfl
theorem infoStr : (Tryz.prog.info? 9).map (fun i => (i.zero, i.size, i.bytes)) = some (some (.string ByteArray.empty), 1, 16) := by kernel_rfl
def ClonePost (w : World) (t : TypeId) (k n : Nat) (xs : List Value) (e : Ending) (w' : World) : Prop := ∃ v', e = .returned v' ∧ w'.ownsRow w.heap.size t k v' n xs ∧ Below w.heap.size w w'

set_option maxHeartbeats 2000000 in
set_option maxRecDepth 100000 in
theorem cloneR_cells (l : List Rd) (a : Addr) (ca : Nat) (w : World) (hA : ∀ j u, (rdCells l)[j]? = some u → w.cell? (a.add j) = some u) (hn : l.length ≤ 1000) :
    Calls Tryz.prog 69 #[.slice (some a) l.length ca] w (ClonePost w 75 2 l.length (rdCells l)) := by
  have q22 : ∀ (w : World) (a : Option Addr) (n c n' c' : Nat), (binOp .eql 34 (.slice a n c) (.slice none n' c')).run Tryz.prog w = .ok (.bool a.isNone) w := fun w a n c n' c' => Lib.run_eql_slice_nil w _ _ a n c n' c' Tryz.underlying34
  obtain ⟨i0, hi, hz0, hz1, hz2⟩ := info_parts infoRd
  have HA := Lib.hid hA
  clear hA
  go_enter Tryz.func69, Tryz.ntmps69
  go_wp2_with (at_builtin; refine wpList_append_own _ rfl _ _ 34 rfl w.heap.size 75 i0 _ 2 24 Tryz.underlying34 hi hz0 hz1 hz2 rfl (by decide) _ _ _ rfl (World.ownsRow_made w #[] 0 (Nat.le_refl _) (Nat.zero_le _) (by simp)) a l.length ca (rdCells l) rfl ?qc1 ?qc2 ?qc3 ?qc4 ?qc5 ?qc6 ?_)
  case qc1 => exact rdCells_len l
  case qc2 =>
    intro j u hj
    exact keepA _ (HA.out j u hj)
  case qc3 => exact rdOne l
  case qc4 => rw [Nat.zero_add]; exact le_maxLen (by omega)
  case qc5 => omega
  case qc6 => simp
  intro v' w1 hown hgrow _
  go_wp2
  go_ret
  exact ⟨v', rfl, by simpa using hown, ((Below.refl _ w).alloc (Nat.le_refl _) _).grown hgrow (by simp) (by intro k hk; simp [Value.ownBlock] at hk; omega)⟩
theorem cloneR_nil (w : World) : Calls Tryz.prog 69 #[.slice none 0 0] w (ClonePost w 75 2 0 []) := by
  have q22 : ∀ (w : World) (a : Option Addr) (n c n' c' : Nat), (binOp .eql 34 (.slice a n c) (.slice none n' c')).run Tryz.prog w = .ok (.bool a.isNone) w := fun w a n c n' c' => Lib.run_eql_slice_nil w _ _ a n c n' c' Tryz.underlying34
  go_enter Tryz.func69, Tryz.ntmps69
  go_wp2
  go_ret
  exact ⟨_, rfl, own_nil _ _ _ _, Below.refl _ _⟩
theorem cloneR_any (l : List Rd) (v : Value) (base : Nat) (w : World) (hr : w.ownsRow base 75 2 v l.length (rdCells l)) (hn : l.length ≤ 1000) :
    Calls Tryz.prog 69 #[v] w (ClonePost w 75 2 l.length (rdCells l)) := by
  have hr0 := hr
  rcases hr.2 with ⟨rfl, h0⟩ | ⟨g, cap, cur, rfl, hb, hh, r⟩
  · have : l = [] := List.eq_nil_of_length_eq_zero h0
    subst this
    exact cloneR_nil w
  · exact cloneR_cells l ⟨g, 0, none⟩ cap w (fun j u hj => hr0.cells rfl j u hj) hn

set_option maxHeartbeats 2000000 in
set_option maxRecDepth 100000 in
theorem cloneW_cells (l : List Wr) (a : Addr) (ca : Nat) (w : World) (hA : ∀ j u, (wrCells l)[j]? = some u → w.cell? (a.add j) = some u) (hn : l.length ≤ 1000) :
    Calls Tryz.prog 70 #[.slice (some a) l.length ca] w (ClonePost w 112 4 l.length (wrCells l)) := by
  have q22 : ∀ (w : World) (a : Option Addr) (n c n' c' : Nat), (binOp .eql 35 (.slice a n c) (.slice none n' c')).run Tryz.prog w = .ok (.bool a.isNone) w := fun w a n c n' c' => Lib.run_eql_slice_nil w _ _ a n c n' c' Tryz.underlying35
  obtain ⟨i0, hi, hz0, hz1, hz2⟩ := info_parts infoWr
  have HA := Lib.hid hA
  clear hA
  go_enter Tryz.func70, Tryz.ntmps70
  go_wp2_with (at_builtin; refine wpList_append_own _ rfl _ _ 35 rfl w.heap.size 112 i0 _ 4 48 Tryz.underlying35 hi hz0 hz1 hz2 rfl (by decide) _ _ _ rfl (World.ownsRow_made w #[] 0 (Nat.le_refl _) (Nat.zero_le _) (by simp)) a l.length ca (wrCells l) rfl ?qc1 ?qc2 ?qc3 ?qc4 ?qc5 ?qc6 ?_)
  case qc1 => exact wrCells_len l
  case qc2 =>
    intro j u hj
    exact keepA _ (HA.out j u hj)
  case qc3 => exact wrOne l
  case qc4 => rw [Nat.zero_add]; exact le_maxLen (by omega)
  case qc5 => omega
  case qc6 => simp
  intro v' w1 hown hgrow _
  go_wp2
  go_ret
  exact ⟨v', rfl, by simpa using hown, ((Below.refl _ w).alloc (Nat.le_refl _) _).grown hgrow (by simp) (by intro k hk; simp [Value.ownBlock] at hk; omega)⟩
theorem cloneW_nil (w : World) : Calls Tryz.prog 70 #[.slice none 0 0] w (ClonePost w 112 4 0 []) := by
  have q22 : ∀ (w : World) (a : Option Addr) (n c n' c' : Nat), (binOp .eql 35 (.slice a n c) (.slice none n' c')).run Tryz.prog w = .ok (.bool a.isNone) w := fun w a n c n' c' => Lib.run_eql_slice_nil w _ _ a n c n' c' Tryz.underlying35
  go_enter Tryz.func70, Tryz.ntmps70
  go_wp2
  go_ret
  exact ⟨_, rfl, own_nil _ _ _ _, Below.refl _ _⟩
theorem cloneW_any (l : List Wr) (v : Value) (base : Nat) (w : World) (hr : w.ownsRow base 112 4 v l.length (wrCells l)) (hn : l.length ≤ 1000) :
    Calls Tryz.prog 70 #[v] w (ClonePost w 112 4 l.length (wrCells l)) := by
  have hr0 := hr
  rcases hr.2 with ⟨rfl, h0⟩ | ⟨g, cap, cur, rfl, hb, hh, r⟩
  · have : l = [] := List.eq_nil_of_length_eq_zero h0
    subst this
    exact cloneW_nil w
  · exact cloneW_cells l ⟨g, 0, none⟩ cap w (fun j u hj => hr0.cells rfl j u hj) hn

set_option maxHeartbeats 2000000 in
set_option maxRecDepth 100000 in
theorem cloneS_cells (l : List ByteArray) (a : Addr) (ca : Nat) (w : World) (hA : ∀ j u, (l.map Value.string)[j]? = some u → w.cell? (a.add j) = some u) (hn : l.length ≤ 1000) :
    Calls Tryz.prog 43 #[.slice (some a) l.length ca] w (ClonePost w 9 1 l.length (l.map Value.string)) := by
  have q22 : ∀ (w : World) (a : Option Addr) (n c n' c' : Nat), (binOp .eql 23 (.slice a n c) (.slice none n' c')).run Tryz.prog w = .ok (.bool a.isNone) w := fun w a n c n' c' => Lib.run_eql_slice_nil w _ _ a n c n' c' Tryz.underlying23
  obtain ⟨i0, hi, hz0, hz1, hz2⟩ := info_parts infoStr
  have HA := Lib.hid hA
  clear hA
  go_enter Tryz.func43, Tryz.ntmps43
  go_wp2_with (at_builtin; refine wpList_append_own _ rfl _ _ 23 rfl w.heap.size 9 i0 _ 1 16 Tryz.underlying23 hi hz0 hz1 hz2 rfl (by decide) _ _ _ rfl (World.ownsRow_made w #[] 0 (Nat.le_refl _) (Nat.zero_le _) (by simp)) a l.length ca (l.map Value.string) rfl ?qc1 ?qc2 ?qc3 ?qc4 ?qc5 ?qc6 ?_)
  case qc1 => exact (by simp : (l.map Value.string).length = l.length * 1)
  case qc2 =>
    intro j u hj
    exact keepA _ (HA.out j u hj)
  case qc3 => exact strOne l
  case qc4 => rw [Nat.zero_add]; exact le_maxLen (by omega)
  case qc5 => omega
  case qc6 => simp
  intro v' w1 hown hgrow _
  go_wp2
  go_ret
  exact ⟨v', rfl, by simpa using hown, ((Below.refl _ w).alloc (Nat.le_refl _) _).grown hgrow (by simp) (by intro k hk; simp [Value.ownBlock] at hk; omega)⟩
theorem cloneS_nil (w : World) : Calls Tryz.prog 43 #[.slice none 0 0] w (ClonePost w 9 1 0 []) := by
  have q22 : ∀ (w : World) (a : Option Addr) (n c n' c' : Nat), (binOp .eql 23 (.slice a n c) (.slice none n' c')).run Tryz.prog w = .ok (.bool a.isNone) w := fun w a n c n' c' => Lib.run_eql_slice_nil w _ _ a n c n' c' Tryz.underlying23
  go_enter Tryz.func43, Tryz.ntmps43
  go_wp2
  go_ret
  exact ⟨_, rfl, own_nil _ _ _ _, Below.refl _ _⟩
theorem cloneS_any (l : List ByteArray) (v : Value) (base : Nat) (w : World) (hr : w.ownsRow base 9 1 v l.length (l.map Value.string)) (hn : l.length ≤ 1000) :
    Calls Tryz.prog 43 #[v] w (ClonePost w 9 1 l.length (l.map Value.string)) := by
  have hr0 := hr
  rcases hr.2 with ⟨rfl, h0⟩ | ⟨g, cap, cur, rfl, hb, hh, r⟩
  · have : l = [] := List.eq_nil_of_length_eq_zero h0
    subst this
    exact cloneS_nil w
  · exact cloneS_cells l ⟨g, 0, none⟩ cap w (fun j u hj => hr0.cells rfl j u hj) hn

end Go.Proofs.YtjgloipgnnigmaaGreatDoor
