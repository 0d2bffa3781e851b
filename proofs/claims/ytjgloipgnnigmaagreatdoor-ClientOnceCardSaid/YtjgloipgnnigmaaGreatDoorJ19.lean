/- The reference's client, loosely: Handle, joined. -/
import Derived.Test.YtjgloipgnnigmaaGreatDoorRcHand21
import Derived.Test.YtjgloipgnnigmaaGreatDoorRefM3
import Derived.Test.YtjgloipgnnigmaaGreatDoorJ15
import Derived.Test.YtjgloipgnnigmaaGreatDoorJ12
import Derived.Test.YtjgloipgnnigmaaGreatDoorJ13
import Derived.Test.YtjgloipgnnigmaaGreatDoorJ16
import Derived.Test.YtjgloipgnnigmaaGreatDoorRefS10
import Derived.Test.YtjgloipgnnigmaaGreatDoorJ11
import Derived.Deep.DeepCutAuto
import Derived.Deep.RegionHeld3
set_option linter.unusedVariables false
set_option linter.unusedSimpArgs false
namespace Go.Proofs.YtjgloipgnnigmaaGreatDoor
open Go.RowKit Go.Shelf

section
variable {w : World} {B p n : Nat} {K : CliK} {x : RcD} {O : Nat → Prop}
theorem rcHandle_any (h : RcAt w B p K x O) (hx : RcOK K.c n x) (hn : n ≤ 1000) (hC : ∀ w', Below B w w' → CfgAt w' K.c K.A K.B) (hf : formedB K.c = true) (m : MsgV) (hm : MsgAt w m) :
    Calls Tryz.prog 63 #[.pointer (some ⟨p, 0, none⟩), .agg m.vs] w (RcSE w B p K (n + 1) O) :=
  rcHandle_in h hx hn hC hf m hm.k (fun wz hz => ref10Formed_some m wz (hm.later hz))
end
end Go.Proofs.YtjgloipgnnigmaaGreatDoor
/- Both clients side by side: their blocks apart; each method of one leaves the other as it was. -/
namespace Go.Proofs.YtjgloipgnnigmaaGreatDoor
open Go.RowKit Go.Shelf Go.Sort

theorem rc0_down {w : World} {B B' q : Nat} {K : CliK} {O : Nat → Prop} (h : RcAt w B' q K rc0 O) (hb : B ≤ B') : RcAt w B q K rc0 O := by
  obtain ⟨vr, vw, va, h⟩ := h
  exact ⟨vr, vw, va, { h with rowr := World.ownsRow.mono h.rowr hb, roww := World.ownsRow.mono h.roww hb, rowa := World.ownsRow.mono h.rowa hb, lt := fun k hk => ⟨Nat.le_trans hb (h.lt k hk).1, (h.lt k hk).2⟩, ks := fun _ _ i hi => absurd hi (Nat.not_lt_zero _) }⟩
theorem SndsAt.out {w w' : World} {base T : Nat} {v : Value} {l : List SndX} {d : List SndD} (h : SndsAt w base v l d) (ho : Out (fun k => k < T) w w') (hT : T ≤ base) : SndsAt w' base v l d :=
  ⟨ho.row h.row (fun g hg e => by have := (h.row.lt g hg).1; omega), h.is, fun s hs => h.fr s hs w w' (fun k h1 h2 => ho.block k h2 (fun e => by omega)) (h.at_ s hs), h.fr⟩
theorem own_out {w w' : World} {base T n k : Nat} {e : TypeId} {v : Value} {xs : List Value} (h : w.ownsRow base e k v n xs) (ho : Out (fun k => k < T) w w') (hT : T ≤ base) : w'.ownsRow base e k v n xs :=
  ho.row h (fun g hg e => by have := (h.lt g hg).1; omega)

/-- What else must stay: the blocks G, since the world wg; w0 is the world at the beginning. -/
structure Gap where
  w0 : World
  G : Nat → Prop
  wg : World
/-- Both clients; the reference's blocks lie below T, the client's below U. -/
structure TwoAt (w0 : Gap) (w : World) (B p q : Nat) (K : CliK) (n m : Nat) (x : CliD) (T U : Nat) : Prop where
  c : StepC w0.w0 B K
  two : ∃ O O' y, CliAt w B p K x O ∧ RcAt w B q K y O' ∧ RcOK K.c m y ∧ (∀ k, O' k → ¬ O k) ∧ (∀ k, O' k → k < T) ∧ (∀ k, O k → k < U) ∧ (∀ k, w0.G k → ¬ O k ∧ ¬ O' k)
  inv : CliInv K.c (6 * n) x
  sz : CliSz x
  b : Below B w0.w0 w
  g : Out (fun k => ¬ w0.G k) w0.wg w
  gl : ∀ k, w0.G k → k < w0.wg.heap.size
section
variable {w0 : Gap} {w : World} {B p q n m T U : Nat} {K : CliK} {x : CliD}
theorem TwoAt.hB (h : TwoAt w0 w B p q K n m x T U) : B ≤ w.heap.size := Nat.le_trans h.c.b h.b.size
theorem TwoAt.top (h : TwoAt w0 w B p q K n m x T U) : TwoAt w0 w B p q K n m x w.heap.size w.heap.size := by
  obtain ⟨O, O', y, hO, hR, hy, ha, _, _, hG⟩ := h.two
  exact ⟨h.c, ⟨O, O', y, hO, hR, hy, ha, fun k hk => (hR.lt' k hk).2, fun k hk => (hO.lt' k hk).2, hG⟩, h.inv, h.sz, h.b, h.g, h.gl⟩
theorem TwoAt.later {w' : World} (h : TwoAt w0 w B p q K n m x T U) (hb : Below w.heap.size w w') : TwoAt w0 w' B p q K n m x T U := by
  obtain ⟨O, O', y, hO, hR, hy, ha, ht, hu, hG⟩ := h.two
  exact ⟨h.c, ⟨O, O', y, hO.later hb, hR.later hb, hy, ha, ht, hu, hG⟩, h.inv, h.sz, h.b.trans (hb.mono h.hB), h.g.trans' (Out.of_below hb), h.gl⟩
theorem TwoAt.hC (h : TwoAt w0 w B p q K n m x T U) (w' : World) (hb : Below B w w') : CfgAt w' K.c K.A K.B := h.c.c w' (h.b.trans hb)
theorem TwoAt.hT (h : TwoAt w0 w B p q K n m x T U) (w' : World) (hb : Below B w w') : Tabs w' := h.c.t w' (h.b.trans hb)
theorem TwoAt.step (h : TwoAt w0 w B p q K n m x T U) : StepAt w0.w0 w B p K n x := by
  obtain ⟨O, O', y, hO, _⟩ := h.two
  exact ⟨h.c, ⟨O, hO⟩, h.inv, h.sz, h.b⟩
theorem TwoAt.up (h : TwoAt w0 w B p q K n m x T U) {n' m' : Nat} (hn : n ≤ n') (hm : m ≤ m') : TwoAt w0 w B p q K n' m' x T U := by
  obtain ⟨O, O', y, hO, hR, hy, ha, ht, hu, hG⟩ := h.two
  exact ⟨h.c, ⟨O, O', y, hO, hR, hy.same hm rfl rfl rfl rfl, ha, ht, hu, hG⟩, h.inv.up (by omega), h.sz, h.b, h.g, h.gl⟩
theorem TwoAt.fst {w' : World} {x' : CliD} {O O' : Nat → Prop} {y : RcD} (h : TwoAt w0 w B p q K n m x T U) (hO : CliAt w B p K x O) (hR : RcAt w B q K y O') (hy : RcOK K.c m y) (ha : ∀ k, O' k → ¬ O k) (ht : ∀ k, O' k → k < T) (hu : ∀ k, O k → k < U) (hG : ∀ k, w0.G k → ¬ O k ∧ ¬ O' k)
    (hA : CliAt w' B p K x' (ext O w w')) (ho : Out O w w') (hi : CliInv K.c (6 * (n + 1)) x') (hs : CliSz x') : TwoAt w0 w' B p q K (n + 1) m x' T w'.heap.size ∧ Below B w w' ∧ Out (fun k => k < U) w w' := by
  have hb : Below B w w' := ho.below h.hB fun k hk => (hO.lt' k hk).1
  refine ⟨⟨h.c, ⟨_, O', y, hA, hR.out ho ha (fun k hk => (hO.lt' k hk).1), hy, fun k hk e => ?_, ht, fun k hk => (hA.lt' k hk).2, fun k hk => ⟨fun e => ?_, (hG k hk).2⟩⟩, hi, hs, h.b.trans hb, h.g.trans' (ho.mono fun k hk e => (hG k e).1 hk), h.gl⟩, hb, ho.mono hu⟩
  · rcases e with e | e
    · exact ha k hk e
    · have := (hR.lt' k hk).2
      omega
  · rcases e with e | e
    · exact (hG k hk).1 e
    · have := h.gl k hk
      have := h.g.size
      omega
theorem TwoAt.snd {w' : World} {m' : Nat} {O O' : Nat → Prop} {y : RcD} (h : TwoAt w0 w B p q K n m x T U) (hO : CliAt w B p K x O) (hR : RcAt w B q K y O') (ha : ∀ k, O' k → ¬ O k) (ht : ∀ k, O' k → k < T) (hu : ∀ k, O k → k < U) (hG : ∀ k, w0.G k → ¬ O k ∧ ¬ O' k) (hE : RcEnd w B q K m' O' w') :
    TwoAt w0 w' B p q K n m' x w'.heap.size U ∧ Below B w w' ∧ Out (fun k => k < T) w w' := by
  obtain ⟨⟨r, hr, hA⟩, ho⟩ := hE
  have hb : Below B w w' := ho.below h.hB fun k hk => (hR.lt' k hk).1
  refine ⟨⟨h.c, ⟨O, _, r, hO.out ho (fun k hk e => ha k e hk), hA, hr, fun k hk e => ?_, fun k hk => (hA.lt' k hk).2, hu, fun k hk => ⟨(hG k hk).1, fun e => ?_⟩⟩, h.inv, h.sz, h.b.trans hb, h.g.trans' (ho.mono fun k hk e => (hG k e).2 hk), h.gl⟩, hb, ho.mono ht⟩
  · rcases hk with q | q
    · exact ha k q e
    · have := (hO.lt' k e).2
      omega
  · rcases e with e | e
    · exact (hG k hk).2 e
    · have := h.gl k hk
      have := h.g.size
      omega
/-- Sends in a row that lies from base on. -/
def SndF (base : Nat) (w : World) (v : Value) (d : List SndD) : Prop := ∃ l, SndsAt w base v l d
theorem SndF.nil (base : Nat) (w : World) : SndF base w (.slice none 0 0) [] := ⟨[], SndsAt.nil _ _⟩
theorem SndF.out {w' : World} {base : Nat} {v : Value} {d : List SndD} (h : SndF base w v d) (ho : Out (fun k => k < T) w w') (hT : T ≤ base) : SndF base w' v d := by
  obtain ⟨l, h⟩ := h
  exact ⟨l, h.out ho hT⟩
theorem SndF.later {w' : World} {base : Nat} {v : Value} {d : List SndD} (h : SndF base w v d) (hb : Below w.heap.size w w') : SndF base w' v d := by
  obtain ⟨l, h⟩ := h
  exact ⟨l, h.later hb⟩
/-- The ends of the client's methods, the reference's beside it. -/
def TwoV (w0 : Gap) (w : World) (B p q : Nat) (K : CliK) (n m : Nat) (v : Value) (y : CliD) (T U : Nat) (e : Ending) (w' : World) : Prop := e = .returned v ∧ TwoAt w0 w' B p q K (n + 1) m y T w'.heap.size ∧ Below B w w' ∧ Out (fun k => k < U) w w'
def TwoS (w0 : Gap) (w : World) (B p q : Nat) (K : CliK) (n m : Nat) (y : CliD) (d : List SndD) (er : Int) (T U : Nat) (e : Ending) (w' : World) : Prop := ∃ v, e = .returned (.tuple #[v, .int .i64 er]) ∧ SndF w.heap.size w' v d ∧ TwoAt w0 w' B p q K (n + 1) m y T w'.heap.size ∧ Below B w w' ∧ Out (fun k => k < U) w w'
def TwoT (w0 : Gap) (w : World) (B p q : Nat) (K : CliK) (n m : Nat) (y : CliD) (d : List SndD) (T U : Nat) (e : Ending) (w' : World) : Prop := ∃ v, e = .returned v ∧ SndF w.heap.size w' v d ∧ TwoAt w0 w' B p q K (n + 1) m y T w'.heap.size ∧ Below B w w' ∧ Out (fun k => k < U) w w'
def TwoH (w0 : Gap) (w : World) (B p q : Nat) (K : CliK) (n m : Nat) (y : CliD) (d : List SndD) (ev : List EvD) (T U : Nat) (e : Ending) (w' : World) : Prop :=
  ∃ v u, e = .returned (.tuple #[v, u]) ∧ SndF w.heap.size w' v d ∧ w'.ownsRow w.heap.size 71 11 u ev.length (evCells ev) ∧ TwoAt w0 w' B p q K (n + 1) m y T w'.heap.size ∧ Below B w w' ∧ Out (fun k => k < U) w w'
theorem two_begin (h : TwoAt w0 w B p q K n m x T U) : Calls Tryz.prog 14 #[.pointer (some ⟨p, 0, none⟩)] w (TwoV w0 w B p q K n m (.int .i64 (beginE x)) (beginD x) T U) := by
  obtain ⟨O, O', y, hO, hR, hy, ha, ht, hu, hG⟩ := h.two
  exact (begin_any hO h.hB h.inv.sq).mono fun e w' ⟨he, hA, ho⟩ => ⟨he, h.fst hO hR hy ha ht hu hG hA ho (h.inv.begin.up (by omega)) (cliSz_begin h.sz)⟩
theorem two_read (h : TwoAt w0 w B p q K n m x T U) (hn : n ≤ 1000) (key : ByteArray) (hk : key.size ≤ maxLen) : Calls Tryz.prog 10 #[.pointer (some ⟨p, 0, none⟩), .string key] w (TwoS w0 w B p q K n m (readD K.c x key) (readL K.c x key) (readE x key) T U) := by
  obtain ⟨O, O', y, hO, hR, hy, ha, ht, hu, hG⟩ := h.two
  exact (read_any hO h.hB h.hC h.c.f h.c.ca h.inv (by omega) key hk).mono fun e w' ⟨v, l, he, hl, hA, ho⟩ => ⟨v, he, ⟨l, hl⟩, h.fst hO hR hy ha ht hu hG hA ho ((h.inv.read h.c.f key).up (by omega)) (cliSz_read h.sz hk)⟩
theorem two_write (h : TwoAt w0 w B p q K n m x T U) (key : ByteArray) (hk : key.size ≤ maxLen) (v : Val) (hv : v.Good) : Calls Tryz.prog 15 #[.pointer (some ⟨p, 0, none⟩), .string key, .agg #[.int .i64 v.kind, .int .u64 (v.bits : Int), .string v.text]] w (TwoV w0 w B p q K n m (.int .i64 (writeE x key v)) (writeD x key v) T U) := by
  obtain ⟨O, O', y, hO, hR, hy, ha, ht, hu, hG⟩ := h.two
  have hi := (h.inv.write key v).up (M := 6 * (n + 1)) (by omega)
  have hz := cliSz_write h.sz hk hv
  have hT := h.hT w (Below.refl _ _)
  by_cases q2 : writeK x key v = 2
  · exact (write_set hO h.hB h.inv hT key hk v hv q2).mono fun e w' ⟨he, hA, ho⟩ => ⟨he, h.fst hO hR hy ha ht hu hG hA ho hi hz⟩
  by_cases q4 : writeK x key v = 4
  · exact (write_ins hO h.hB h.inv hT key hk v hv q4).mono fun e w' ⟨he, hA, ho⟩ => ⟨he, h.fst hO hR hy ha ht hu hG hA ho hi hz⟩
  exact (write_no hO h.hB h.inv hT key hk v hv ⟨q2, q4⟩).mono fun e w' ⟨he, hA, ho⟩ => ⟨he, h.fst hO hR hy ha ht hu hG hA ho hi hz⟩
theorem two_commit (h : TwoAt w0 w B p q K n m x T U) : Calls Tryz.prog 11 #[.pointer (some ⟨p, 0, none⟩)] w (TwoS w0 w B p q K n m (commitD x) (commitL K.c K.ses x) (commitE x) T U) := by
  obtain ⟨O, O', y, hO, hR, hy, ha, ht, hu, hG⟩ := h.two
  exact (commit_all hO h.hB h.hC h.hT h.c.f h.c.ca h.inv h.sz).mono fun e w' ⟨v, l, he, hl, hA, ho⟩ => ⟨v, he, ⟨l, hl⟩, h.fst hO hR hy ha ht hu hG hA ho (h.inv.commit.up (by omega)) (cliSz_commit h.sz)⟩
theorem two_abort (h : TwoAt w0 w B p q K n m x T U) : Calls Tryz.prog 16 #[.pointer (some ⟨p, 0, none⟩)] w (TwoV w0 w B p q K n m (.int .i64 (abortE x)) (abortD x) T U) := by
  obtain ⟨O, O', y, hO, hR, hy, ha, ht, hu, hG⟩ := h.two
  exact (abort_any hO h.hB).mono fun e w' ⟨he, hA, ho⟩ => ⟨he, h.fst hO hR hy ha ht hu hG hA ho (h.inv.abort.up (by omega)) (cliSz_abort h.sz)⟩
theorem two_snap {w1 : World} (h : TwoAt w0 w B p q K n m x T U) (hn : n ≤ 1000) (hb : Below w.heap.size w w1) (keys : List ByteArray) (A1 : Option Addr) (c1 : Nat) (hkr : w1.ownsRow w.heap.size 9 1 (.slice A1 keys.length c1) keys.length (keys.map Value.string)) (hs : ∀ k ∈ keys, k.size ≤ maxLen) :
    Calls Tryz.prog 12 #[.pointer (some ⟨p, 0, none⟩), .slice A1 keys.length c1] w1 (TwoS w0 w1 B p q K n m (snapD K.c x keys) (snapL K.c x keys) (snapE x keys) T U) := by
  obtain ⟨O, O', y, hO, hR, hy, ha, ht, hu, hG⟩ := h.two
  have h1 := h.later hb
  have hO1 := hO.later hb
  have hR1 := hR.later hb
  have hi := (h1.inv.snap h1.c.f keys).up (M := 6 * (n + 1)) (by omega)
  have hz := cliSz_snap (c := K.c) h1.sz hs
  by_cases q : snapK x keys = 0 ∨ keys.length < 1 ∨ 6 < keys.length
  · exact (snap_no hO1 h1.hB keys A1 c1 q).mono fun e w' ⟨v, l, he, hl, hA, ho⟩ => ⟨v, he, ⟨l, hl⟩, h1.fst hO1 hR1 hy ha ht hu hG hA ho hi hz⟩
  have q0 : snapK x keys ≠ 0 := fun e => q (.inl e)
  have s0 : x.state = 0 := by
    refine Decidable.byContradiction fun e => q0 ?_
    rw [snapK, if_pos e]
  refine (snap_yes hO1 h1.hB h1.hC h1.c.f h1.c.ca h1.inv (by omega) keys A1 c1 w.heap.size hkr (fun a ha' hOa => ?_) (fun k hk => hs _ (getD_mem hk)) s0 (by omega) (by omega)).mono fun e w' ⟨v, l, he, hl, hA, ho⟩ => ⟨v, he, ⟨l, hl⟩, h1.fst hO1 hR1 hy ha ht hu hG hA ho hi hz⟩
  subst ha'
  have := (hkr.lt a.block rfl).1
  have := (hO.lt' _ hOa).2
  omega
theorem two_hand (h : TwoAt w0 w B p q K n m x T U) (hn : n ≤ 1000) (mm : MsgV) (hm : MsgAt w mm) : Calls Tryz.prog 13 #[.pointer (some ⟨p, 0, none⟩), .agg mm.vs] w fun e w' => ∃ fm, TwoH w0 w B p q K n m (handD K.c K.ses x mm fm) (handL K.c K.ses x mm fm) (handEv K.ses x mm fm) T U e w' := by
  obtain ⟨O, O', y, hO, hR, hy, ha, ht, hu, hG⟩ := h.two
  refine (hand_any hO h.hB h.hC h.hT h.c.f h.c.ca h.inv (by omega) h.sz mm hm).mono fun e w' ⟨fm, v1, l, v2, he, hl, hr, hA, ho⟩ => ?_
  exact ⟨fm, v1, v2, he, ⟨l, hl⟩, hr, h.fst hO hR hy ha ht hu hG hA ho ((h.inv.hand h.c.f K.ses mm fm).up (by omega)) (cliSz_hand h.sz K.ses mm fm hm.k)⟩
theorem two_tick (h : TwoAt w0 w B p q K n m x T U) : Calls Tryz.prog 17 #[.pointer (some ⟨p, 0, none⟩)] w (TwoT w0 w B p q K n m (tick0 x) (tickL K.c K.ses x) T U) := by
  obtain ⟨O, O', y, hO, hR, hy, ha, ht, hu, hG⟩ := h.two
  exact (tick_all hO h.hB h.hC h.hT h.c.f h.c.ca h.inv h.sz).mono fun e w' ⟨v, l, he, hl, hA, ho⟩ => ⟨v, he, ⟨l, hl⟩, h.fst hO hR hy ha ht hu hG hA ho (h.inv.tick.up (by omega)) (cliSz_same h.sz rfl rfl rfl rfl)⟩

/-! ### The reference's methods, the client as it was -/
def TwR (w0 : Gap) (w : World) (B p q : Nat) (K : CliK) (n m : Nat) (x : CliD) (T U : Nat) (w' : World) : Prop := TwoAt w0 w' B p q K n (m + 1) x w'.heap.size U ∧ Below B w w' ∧ Out (fun k => k < T) w w'
def TwRV (w0 : Gap) (w : World) (B p q : Nat) (K : CliK) (n m : Nat) (x : CliD) (T U : Nat) (e : Ending) (w' : World) : Prop := ∃ z : Int, e = .returned (.int .i64 z) ∧ TwR w0 w B p q K n m x T U w'
def TwRS (w0 : Gap) (w : World) (B p q : Nat) (K : CliK) (n m : Nat) (x : CliD) (T U : Nat) (e : Ending) (w' : World) : Prop := ∃ v, ∃ z : Int, e = .returned (.tuple #[v, .int .i64 z]) ∧ RSndR w' v ∧ TwR w0 w B p q K n m x T U w'
def TwRT (w0 : Gap) (w : World) (B p q : Nat) (K : CliK) (n m : Nat) (x : CliD) (T U : Nat) (e : Ending) (w' : World) : Prop := ∃ v, e = .returned v ∧ RSndR w' v ∧ TwR w0 w B p q K n m x T U w'
def TwRH (w0 : Gap) (w : World) (B p q : Nat) (K : CliK) (n m : Nat) (x : CliD) (T U : Nat) (e : Ending) (w' : World) : Prop := ∃ v u, e = .returned (.tuple #[v, u]) ∧ RSndR w' v ∧ RevR w' u ∧ TwR w0 w B p q K n m x T U w'
theorem twr_post {e : Ending} {w' : World} {O O' : Nat → Prop} {y : RcD} (h : TwoAt w0 w B p q K n m x T U) (hO : CliAt w B p K x O) (hR : RcAt w B q K y O') (ha : ∀ k, O' k → ¬ O k) (ht : ∀ k, O' k → k < T) (hu : ∀ k, O k → k < U) (hG : ∀ k, w0.G k → ¬ O k ∧ ¬ O' k) (hp : RcPost w B q K (m + 1) O' isErr e w') : TwRV w0 w B p q K n m x T U e w' := by
  obtain ⟨v, he, ⟨z, rfl⟩, hE⟩ := hp
  exact ⟨z, he, h.snd hO hR ha ht hu hG hE⟩
theorem twr_begin (h : TwoAt w0 w B p q K n m x T U) : Calls Tryz.prog 57 #[.pointer (some ⟨q, 0, none⟩)] w (TwRV w0 w B p q K n m x T U) := by
  obtain ⟨O, O', y, hO, hR, hy, ha, ht, hu, hG⟩ := h.two
  exact (rcBegin_any hR hy).mono fun e w' hp => twr_post h hO hR ha ht hu hG hp
theorem twr_read (h : TwoAt w0 w B p q K n m x T U) (hm : m ≤ 1000) (key : ByteArray) (hk : key.size ≤ maxLen) : Calls Tryz.prog 58 #[.pointer (some ⟨q, 0, none⟩), .string key] w (TwRS w0 w B p q K n m x T U) := by
  obtain ⟨O, O', y, hO, hR, hy, ha, ht, hu, hG⟩ := h.two
  exact (rcRead_any hR hy hm h.hC h.c.f key hk).mono fun e w' ⟨v, z, he, hs, hE⟩ => ⟨v, z, he, hs, h.snd hO hR ha ht hu hG hE⟩
theorem twr_write (h : TwoAt w0 w B p q K n m x T U) (hm : m ≤ 1000) (key : ByteArray) (hk : key.size ≤ maxLen) (v : Val) (hv : v.Good) : Calls Tryz.prog 59 #[.pointer (some ⟨q, 0, none⟩), .string key, .agg #[.int .i64 v.kind, .int .u64 (v.bits : Int), .string v.text]] w (TwRV w0 w B p q K n m x T U) := by
  obtain ⟨O, O', y, hO, hR, hy, ha, ht, hu, hG⟩ := h.two
  exact (rcWrite_any hR hy hm key hk v hv).mono fun e w' hp => twr_post h hO hR ha ht hu hG hp
theorem twr_commit (h : TwoAt w0 w B p q K n m x T U) (hm : m ≤ 1000) : Calls Tryz.prog 60 #[.pointer (some ⟨q, 0, none⟩)] w (TwRS w0 w B p q K n m x T U) := by
  obtain ⟨O, O', y, hO, hR, hy, ha, ht, hu, hG⟩ := h.two
  exact (rcCommit_any hR hy hm h.hC h.c.f).mono fun e w' ⟨v, z, he, hs, hE⟩ => ⟨v, z, he, hs, h.snd hO hR ha ht hu hG hE⟩
theorem twr_abort (h : TwoAt w0 w B p q K n m x T U) : Calls Tryz.prog 61 #[.pointer (some ⟨q, 0, none⟩)] w (TwRV w0 w B p q K n m x T U) := by
  obtain ⟨O, O', y, hO, hR, hy, ha, ht, hu, hG⟩ := h.two
  exact (rcAbort_any hR hy).mono fun e w' hp => twr_post h hO hR ha ht hu hG hp
theorem twr_snap (h : TwoAt w0 w B p q K n m x T U) (hm : m ≤ 1000) (KA : Option Addr) (keys : List ByteArray) (kc : Nat) (hKs : ∀ w', Below B w w' → StrsAt w' KA keys) (hkn : keys.length ≤ 10) (hkz : ∀ k ∈ keys, k.size ≤ 9223372036854775807) :
    Calls Tryz.prog 62 #[.pointer (some ⟨q, 0, none⟩), .slice KA keys.length kc] w (TwRS w0 w B p q K n m x T U) := by
  obtain ⟨O, O', y, hO, hR, hy, ha, ht, hu, hG⟩ := h.two
  exact (rcSnap_any hR hy hm h.hC h.c.f KA keys kc hKs hkn hkz).mono fun e w' ⟨v, z, he, hs, hE⟩ => ⟨v, z, he, hs, h.snd hO hR ha ht hu hG hE⟩
theorem twr_hand (h : TwoAt w0 w B p q K n m x T U) (hm : m ≤ 1000) (mm : MsgV) (hmm : MsgAt w mm) : Calls Tryz.prog 63 #[.pointer (some ⟨q, 0, none⟩), .agg mm.vs] w (TwRH w0 w B p q K n m x T U) := by
  obtain ⟨O, O', y, hO, hR, hy, ha, ht, hu, hG⟩ := h.two
  exact (rcHandle_any hR hy hm h.hC h.c.f mm hmm).mono fun e w' ⟨v, u, he, hs, hv, hE⟩ => ⟨v, u, he, hs, hv, h.snd hO hR ha ht hu hG hE⟩
theorem twr_tick (h : TwoAt w0 w B p q K n m x T U) (hm : m ≤ 1000) : Calls Tryz.prog 64 #[.pointer (some ⟨q, 0, none⟩)] w (TwRT w0 w B p q K n m x T U) := by
  obtain ⟨O, O', y, hO, hR, hy, ha, ht, hu, hG⟩ := h.two
  exact (rcTick_any hR hy hm h.hC h.c.f).mono fun e w' ⟨v, he, hs, hE⟩ => ⟨v, he, hs, h.snd hO hR ha ht hu hG hE⟩
/-- Both clients, new. -/
theorem two_new {w0 w1 w2 : World} {p q : Nat} (hC : CfgAt w0 K.c K.A K.B) (hT : Tabs w0) (hca : K.c.reps.length ≤ K.ca) (hk : cliOK K = true) (hO : CliAt w1 w0.heap.size p K cli0 (fun k => k = p)) (hb1 : Below w0.heap.size w0 w1)
    (hR : RcAt w2 w1.heap.size q K rc0 (fun k => k = q)) (hb2 : Below w1.heap.size w1 w2) : TwoAt ⟨w0, fun _ => False, w2⟩ w2 w0.heap.size p q K 0 0 cli0 w2.heap.size w2.heap.size := by
  simp only [cliOK, Bool.and_eq_true, decide_eq_true_eq] at hk
  have hO2 := hO.later hb2
  refine ⟨{ c := fun w' hb => hC.later hb, t := fun w' hb => hT.later hb, b := Nat.le_refl _, f := hk.1.1, ca := hca, s1 := hk.1.2, s8 := hk.2 }, ⟨_, _, _, hO2, rc0_down hR hb1.size, rc0_ok K.c, fun k hk e => ?_, fun k hk => (hR.lt' k hk).2, fun k hk => (hO2.lt' k hk).2, fun _ h => h.elim⟩, inv_0 K.c _, cliSz_0, keepB hb1 hb2, Out.refl _ _, fun _ h => h.elim⟩
  have a := (hR.lt' k hk).1
  have b := (hO.lt' k e).2
  omega
/-- Other blocks must stay from here on: fewer, or a row that was appended to. -/
theorem TwoAt.regap (h : TwoAt w0 w B p q K n m x T U) {G' : Nat → Prop} {w' : World} (ho : Out w0.G w w') (hB : ∀ k, w0.G k → B ≤ k) (hG' : ∀ k, G' k → (w0.G k ∨ w.heap.size ≤ k) ∧ k < w'.heap.size) : TwoAt ⟨w0.w0, G', w'⟩ w' B p q K n m x T U := by
  obtain ⟨O, O', y, hO, hR, hy, ha, ht, hu, hG⟩ := h.two
  refine ⟨h.c, ⟨O, O', y, hO.out ho (fun k hk e => (hG k e).1 hk), hR.out ho (fun k hk e => (hG k e).2 hk) hB, hy, ha, ht, hu, fun k hk => ⟨fun e => ?_, fun e => ?_⟩⟩, h.inv, h.sz, h.b.trans (ho.below h.hB hB), Out.refl _ _, fun k hk => (hG' k hk).2⟩
  · rcases (hG' k hk).1 with q | q
    · exact (hG k q).1 e
    · have := (hO.lt' k e).2
      omega
  · rcases (hG' k hk).1 with q | q
    · exact (hG k q).2 e
    · have := (hR.lt' k e).2
      omega
end
end Go.Proofs.YtjgloipgnnigmaaGreatDoor
/- parishref21.Same, loosely: some bool. -/
namespace Go.Proofs.YtjgloipgnnigmaaGreatDoor
open Go.RowKit Go.Shelf Go.Sort

theorem ss_S {w w' : World} {a b c d : Addr} {u v : Value} {r s : Array Value} (h0 : w.cell? a = some u) (h1 : CellRow w b r) (h2 : w.cell? c = some v) (h3 : CellRow w d s) (hb : Below w.heap.size w w') :
    w'.cell? a = some u ∧ CellRow w' b r ∧ w'.cell? c = some v ∧ CellRow w' d s ∧ Below w.heap.size w w' := ⟨keep hb h0, h1.later hb, keep hb h2, h3.later hb, hb⟩
set_option maxRecDepth 100000 in
set_option maxHeartbeats 8000000 in
theorem refSame21_some (l1 l2 : List SndX) (v1 v2 : Value) (b1 b2 : Nat) (w : World) (h1 : w.ownsRow b1 166 35 v1 l1.length (sndCells l1)) (h2 : w.ownsRow b2 166 35 v2 l2.length (sndCells l2)) (hn : l1.length ≤ 1000000)
    (m1 : ∀ s ∈ l1, MsgAt w s.m ∧ s.m.data.length ≤ 900000) (m2 : ∀ s ∈ l2, MsgAt w s.m) :
    Calls Tryz.prog 65 #[v1, v2] w (SomeB w) := by
  obtain ⟨A1, k1, rfl, H1⟩ := own_el (f := fun e : SndX => e.vs.toList) (fun _ => rfl) noSnd h1
  obtain ⟨A2, k2, rfl, H2⟩ := own_el (f := fun e : SndX => e.vs.toList) (fun _ => rfl) noSnd h2
  clear h1 h2
  by_cases hl : l1.length = l2.length
  · rw [← hl] at H2 ⊢
    have HH2 := Lib.hid H2
    have HL := Lib.hid hl
    have M1 := Lib.hid m1
    have M2 := Lib.hid m2
    clear hl H2 m1 m2
    go_enter Tryz.func65, Tryz.ntmps65
    go_wp2
    go_loopw [5] (fun i wr => ∃ k : Nat, k ≤ l1.length ∧ i = .int .i64 k ∧ Below w.heap.size w wr) (fun i _ => l1.length - (intOf i).toNat)
    case atStart => exact ⟨0, Nat.zero_le _, rfl, Below.refl _ _⟩
    case round =>
      obtain ⟨k, hk, rfl, hw⟩ := hrel
      obtain ⟨wz, rfl⟩ : ∃ wz : World, wz = wr := ⟨_, rfl⟩
      by_cases hk1 : k < l1.length
      · obtain ⟨g1, rfl, e1⟩ := H1 k hk1
        obtain ⟨g2, rfl, e2⟩ := HH2.out k hk1
        have hmx := M1.out _ (getD_mem (d := noSnd) hk1)
        have hmy := M2.out _ (getD_mem (d := noSnd) (HL.out ▸ hk1))
        obtain ⟨x, hx⟩ : ∃ x, l1.getD k noSnd = x := ⟨_, rfl⟩
        obtain ⟨y, hy⟩ : ∃ y, l2.getD k noSnd = y := ⟨_, rfl⟩
        rw [hx] at e1 hmx
        rw [hy] at e2 hmy
        rw [Nat.zero_add] at e1 e2
        clear hx hy
        have ki : (k : Int) < (l1.length : Int) := by omega
        have k0 : (0 : Int) ≤ (k : Int) := by omega
        have E0 := Lib.hid (snd_dest e1)
        have E1 := Lib.hid (snd_msg e1)
        have F0 := Lib.hid (snd_dest e2)
        have F1 := Lib.hid (snd_msg e2)
        have HS : Hid (∀ wy, Below w.heap.size w wy → Calls Tryz.prog 119 #[.agg x.m.vs, .agg y.m.vs] wy (SomeB wy)) := fun wy hy => ref10Same_some x.m y.m wy (hmx.1.later hy) (hmy.later hy) hmx.2
        clear e1 e2 hmx hmy
        have hk2 : Hid (k + 1 ≤ l1.length) := hk1
        go_upto_region 6 with fail
        go_cut [41] (fun s wx => (∃ b : Bool, s = .bool b) ∧ Below w.heap.size w wx)
        case first =>
          cases q : (x.dest != y.dest)
          · skip
            refine wp_region_held_drew (S := (fun w' => w'.cell? ⟨g1, k * 35, none⟩ = some (.int .i64 x.dest) ∧ CellRow w' ⟨g1, k * 35 + 1, none⟩ x.m.vs ∧ w'.cell? ⟨g2, k * 35, none⟩ = some (.int .i64 y.dest) ∧ CellRow w' ⟨g2, k * 35 + 1, none⟩ y.m.vs ∧ Below w.heap.size w w')) (by kernel_rfl) (ss_S E0.out E1.out F0.out F1.out (below_drew hw)) (fun hHeld => ?_)
            refine wpAnyH_take (i := 0) (oi := ?o0_1) (v := ?v0_1) ?hi0_1 (by kernel_rfl) (by kernel_rfl) (by kernel_rfl) ?hq0_1 (Or.inl ⟨?hg0_1, ?hy0_1⟩) hHeld ?rest0_1
            case hi0_1 => (simp only [List.getElem?_toArray, List.getElem?_cons_succ, List.getElem?_cons_zero]; rfl)
            case hq0_1 => exact fun _ _ _ h => h
            case hg0_1 => rfl
            case hy0_1 => (intro w hSw; (try dsimp only at hSw); go_simp; (try with_reducible rfl))
            (try simp only [Act.put, List.setIfInBounds_toArray, List.set_cons_zero, List.set_cons_succ])
            refine wpAnyH_take (i := 1) (oi := ?o1_2) (v := ?v1_2) ?hi1_2 (by kernel_rfl) (by kernel_rfl) (by kernel_rfl) ?hq1_2 (Or.inl ⟨?hg1_2, ?hy1_2⟩) hHeld ?rest1_2
            case hi1_2 => (simp only [List.getElem?_toArray, List.getElem?_cons_succ, List.getElem?_cons_zero]; rfl)
            case hq1_2 => exact fun _ _ _ h => h
            case hg1_2 => rfl
            case hy1_2 => (intro w hSw; (try dsimp only at hSw); go_simp; (try with_reducible rfl))
            (try simp only [Act.put, List.setIfInBounds_toArray, List.set_cons_zero, List.set_cons_succ])
            refine wpAnyH_take (i := 2) (oi := ?o2_3) (v := ?v2_3) ?hi2_3 (by kernel_rfl) (by kernel_rfl) (by kernel_rfl) ?hq2_3 (Or.inl ⟨?hg2_3, ?hy2_3⟩) hHeld ?rest2_3
            case hi2_3 => (simp only [List.getElem?_toArray, List.getElem?_cons_succ, List.getElem?_cons_zero]; rfl)
            case hq2_3 => exact fun _ _ _ h => h
            case hg2_3 => rfl
            case hy2_3 => (intro w hSw; (try dsimp only at hSw); go_simp; (try with_reducible rfl))
            (try simp only [Act.put, List.setIfInBounds_toArray, List.set_cons_zero, List.set_cons_succ])
            refine wpAnyH_take (i := 3) (oi := ?o3_4) (v := ?v3_4) ?hi3_4 (by kernel_rfl) (by kernel_rfl) (by kernel_rfl) ?hq3_4 (Or.inl ⟨?hg3_4, ?hy3_4⟩) hHeld ?rest3_4
            case hi3_4 => (simp only [List.getElem?_toArray, List.getElem?_cons_succ, List.getElem?_cons_zero]; rfl)
            case hq3_4 => exact fun _ _ _ h => h
            case hg3_4 => rfl
            case hy3_4 => (intro w hSw; (try dsimp only at hSw); go_simp; (try with_reducible rfl))
            (try simp only [Act.put, List.setIfInBounds_toArray, List.set_cons_zero, List.set_cons_succ])
            refine wpAnyH_take (i := 4) (oi := ?o4_5) (v := ?v4_5) ?hi4_5 (by kernel_rfl) (by kernel_rfl) (by kernel_rfl) ?hq4_5 (Or.inl ⟨?hg4_5, ?hy4_5⟩) hHeld ?rest4_5
            case hi4_5 => (simp only [List.getElem?_toArray, List.getElem?_cons_succ, List.getElem?_cons_zero]; rfl)
            case hq4_5 => exact fun _ _ _ h => h
            case hg4_5 => rfl
            case hy4_5 => (intro w hSw; (try dsimp only at hSw); go_simp; (try with_reducible rfl))
            (try simp only [Act.put, List.setIfInBounds_toArray, List.set_cons_zero, List.set_cons_succ])
            refine wpAnyH_take (i := 5) (oi := ?o5_6) (v := ?v5_6) ?hi5_6 (by kernel_rfl) (by kernel_rfl) (by kernel_rfl) ?hq5_6 (Or.inl ⟨?hg5_6, ?hy5_6⟩) hHeld ?rest5_6
            case hi5_6 => (simp only [List.getElem?_toArray, List.getElem?_cons_succ, List.getElem?_cons_zero]; rfl)
            case hq5_6 => exact fun _ _ _ h => h
            case hg5_6 => rfl
            case hy5_6 => (intro w hSw; (try dsimp only at hSw); go_simp; (try with_reducible rfl))
            (try simp only [Act.put, List.setIfInBounds_toArray, List.set_cons_zero, List.set_cons_succ])
            refine wpAnyH_take (i := 6) (oi := ?o6_7) (v := ?v6_7) ?hi6_7 (by kernel_rfl) (by kernel_rfl) (by kernel_rfl) ?hq6_7 (Or.inl ⟨?hg6_7, ?hy6_7⟩) hHeld ?rest6_7
            case hi6_7 => (simp only [List.getElem?_toArray, List.getElem?_cons_succ, List.getElem?_cons_zero]; rfl)
            case hq6_7 => exact fun _ _ _ h => h
            case hg6_7 => rfl
            case hy6_7 => (intro w hSw; (try dsimp only at hSw); go_simp; (try with_reducible rfl))
            (try simp only [Act.put, List.setIfInBounds_toArray, List.set_cons_zero, List.set_cons_succ])
            refine wpAnyH_take (i := 7) (oi := ?o7_8) (v := ?v7_8) ?hi7_8 (by kernel_rfl) (by kernel_rfl) (by kernel_rfl) ?hq7_8 (Or.inl ⟨?hg7_8, ?hy7_8⟩) hHeld ?rest7_8
            case hi7_8 => (simp only [List.getElem?_toArray, List.getElem?_cons_succ, List.getElem?_cons_zero]; rfl)
            case hq7_8 => exact fun _ _ _ h => h
            case hg7_8 => rfl
            case hy7_8 => (intro w hSw; (try dsimp only at hSw); go_simp; (try with_reducible rfl))
            (try simp only [Act.put, List.setIfInBounds_toArray, List.set_cons_zero, List.set_cons_succ])
            refine wpAnyH_take (i := 8) (oi := ?o8_9) (v := ?v8_9) ?hi8_9 (by kernel_rfl) (by kernel_rfl) (by kernel_rfl) ?hq8_9 (Or.inl ⟨?hg8_9, ?hy8_9⟩) hHeld ?rest8_9
            case hi8_9 => (simp only [List.getElem?_toArray, List.getElem?_cons_succ, List.getElem?_cons_zero]; rfl)
            case hq8_9 => exact fun _ _ _ h => h
            case hg8_9 => rfl
            case hy8_9 => (intro w hSw; (try dsimp only at hSw); go_simp; (try with_reducible rfl))
            (try simp only [Act.put, List.setIfInBounds_toArray, List.set_cons_zero, List.set_cons_succ])
            refine wpAnyH_take (i := 9) (oi := ?o9_10) (v := ?v9_10) ?hi9_10 (by kernel_rfl) (by kernel_rfl) (by kernel_rfl) ?hq9_10 (Or.inl ⟨?hg9_10, ?hy9_10⟩) hHeld ?rest9_10
            case hi9_10 => (simp only [List.getElem?_toArray, List.getElem?_cons_succ, List.getElem?_cons_zero]; rfl)
            case hq9_10 => exact fun _ _ _ h => h
            case hg9_10 => rfl
            case hy9_10 => (intro w hSw; (try dsimp only at hSw); go_simp; (try with_reducible rfl))
            (try simp only [Act.put, List.setIfInBounds_toArray, List.set_cons_zero, List.set_cons_succ])
            refine wpAnyH_take (i := 10) (oi := ?o10_11) (v := ?v10_11) ?hi10_11 (by kernel_rfl) (by kernel_rfl) (by kernel_rfl) ?hq10_11 (Or.inl ⟨?hg10_11, ?hy10_11⟩) hHeld ?rest10_11
            case hi10_11 => (simp only [List.getElem?_toArray, List.getElem?_cons_succ, List.getElem?_cons_zero]; rfl)
            case hq10_11 => exact fun _ _ _ h => h
            case hg10_11 => rfl
            case hy10_11 => (intro w hSw; (try dsimp only at hSw); go_simp; (try with_reducible rfl))
            (try simp only [Act.put, List.setIfInBounds_toArray, List.set_cons_zero, List.set_cons_succ])
            refine wpAnyH_take (i := 11) (oi := ?o11_12) (v := ?v11_12) ?hi11_12 (by kernel_rfl) (by kernel_rfl) (by kernel_rfl) ?hq11_12 (Or.inl ⟨?hg11_12, ?hy11_12⟩) hHeld ?rest11_12
            case hi11_12 => (simp only [List.getElem?_toArray, List.getElem?_cons_succ, List.getElem?_cons_zero]; rfl)
            case hq11_12 => exact fun _ _ _ h => h
            case hg11_12 => rfl
            case hy11_12 => (intro w hSw; (try dsimp only at hSw); go_simp; (try with_reducible rfl))
            (try simp only [Act.put, List.setIfInBounds_toArray, List.set_cons_zero, List.set_cons_succ])
            refine wpAnyH_take (i := 12) (oi := ?o12_13) (v := ?v12_13) ?hi12_13 (by kernel_rfl) (by kernel_rfl) (by kernel_rfl) ?hq12_13 (Or.inl ⟨?hg12_13, ?hy12_13⟩) hHeld ?rest12_13
            case hi12_13 => (simp only [List.getElem?_toArray, List.getElem?_cons_succ, List.getElem?_cons_zero]; rfl)
            case hq12_13 => exact fun _ _ _ h => h
            case hg12_13 => rfl
            case hy12_13 => (intro w hSw; (try dsimp only at hSw); go_simp; (try with_reducible rfl))
            (try simp only [Act.put, List.setIfInBounds_toArray, List.set_cons_zero, List.set_cons_succ])
            refine wpAnyH_take (i := 13) (oi := ?o13_14) (v := ?v13_14) ?hi13_14 (by kernel_rfl) (by kernel_rfl) (by kernel_rfl) ?hq13_14 (Or.inl ⟨?hg13_14, ?hy13_14⟩) hHeld ?rest13_14
            case hi13_14 => (simp only [List.getElem?_toArray, List.getElem?_cons_succ, List.getElem?_cons_zero]; rfl)
            case hq13_14 => exact fun _ _ _ h => h
            case hg13_14 => rfl
            case hy13_14 => (intro w hSw; (try dsimp only at hSw); go_simp; (try with_reducible rfl))
            (try simp only [Act.put, List.setIfInBounds_toArray, List.set_cons_zero, List.set_cons_succ])
            refine wpAnyH_take (i := 14) (oi := ?o14_15) (v := ?v14_15) ?hi14_15 (by kernel_rfl) (by kernel_rfl) (by kernel_rfl) ?hq14_15 (Or.inl ⟨?hg14_15, ?hy14_15⟩) hHeld ?rest14_15
            case hi14_15 => (simp only [List.getElem?_toArray, List.getElem?_cons_succ, List.getElem?_cons_zero]; rfl)
            case hq14_15 => exact fun _ _ _ h => h
            case hg14_15 => rfl
            case hy14_15 => (intro w hSw; (try dsimp only at hSw); go_simp; (try with_reducible rfl))
            (try simp only [Act.put, List.setIfInBounds_toArray, List.set_cons_zero, List.set_cons_succ])
            refine wpAnyH_take (i := 15) (oi := ?o15_16) (v := ?v15_16) ?hi15_16 (by kernel_rfl) (by kernel_rfl) (by kernel_rfl) ?hq15_16 (Or.inl ⟨?hg15_16, ?hy15_16⟩) hHeld ?rest15_16
            case hi15_16 => (simp only [List.getElem?_toArray, List.getElem?_cons_succ, List.getElem?_cons_zero]; rfl)
            case hq15_16 => exact fun _ _ _ h => h
            case hg15_16 => rfl
            case hy15_16 => (intro w hSw; (try dsimp only at hSw); go_simp; (try with_reducible rfl))
            (try simp only [Act.put, List.setIfInBounds_toArray, List.set_cons_zero, List.set_cons_succ])
            refine wpAnyH_take (i := 16) (oi := ?o16_17) (v := .agg x.m.vs) ?hi16_17 (by kernel_rfl) (by kernel_rfl) (by kernel_rfl) ?hq16_17 (yieldsIf_cells ?hg16_17 85 (.tmp 32) ?hl16_17 ⟨g1, k * 35 + 1, none⟩ ?hx16_17 _ _ (fun w hw => hw.2.1) Tryz.underlying85 rfl info_rmsg21) hHeld ?rest16_17
            case hi16_17 => (simp only [List.getElem?_toArray, List.getElem?_cons_succ, List.getElem?_cons_zero]; rfl)
            case hq16_17 => exact fun _ _ _ h => h
            case hg16_17 => rfl
            case hl16_17 => rfl
            case hx16_17 => rfl
            (try simp only [Act.put, List.setIfInBounds_toArray, List.set_cons_zero, List.set_cons_succ])
            refine wpAnyH_take (i := 17) (oi := ?o17_18) (v := ?v17_18) ?hi17_18 (by kernel_rfl) (by kernel_rfl) (by kernel_rfl) ?hq17_18 (Or.inl ⟨?hg17_18, ?hy17_18⟩) hHeld ?rest17_18
            case hi17_18 => (simp only [List.getElem?_toArray, List.getElem?_cons_succ, List.getElem?_cons_zero]; rfl)
            case hq17_18 => exact fun _ _ _ h => h
            case hg17_18 => rfl
            case hy17_18 => (intro w hSw; (try dsimp only at hSw); go_simp; (try with_reducible rfl))
            (try simp only [Act.put, List.setIfInBounds_toArray, List.set_cons_zero, List.set_cons_succ])
            refine wpAnyH_take (i := 18) (oi := ?o18_19) (v := ?v18_19) ?hi18_19 (by kernel_rfl) (by kernel_rfl) (by kernel_rfl) ?hq18_19 (Or.inl ⟨?hg18_19, ?hy18_19⟩) hHeld ?rest18_19
            case hi18_19 => (simp only [List.getElem?_toArray, List.getElem?_cons_succ, List.getElem?_cons_zero]; rfl)
            case hq18_19 => exact fun _ _ _ h => h
            case hg18_19 => rfl
            case hy18_19 => (intro w hSw; (try dsimp only at hSw); go_simp; (try with_reducible rfl))
            (try simp only [Act.put, List.setIfInBounds_toArray, List.set_cons_zero, List.set_cons_succ])
            refine wpAnyH_take (i := 19) (oi := ?o19_20) (v := ?v19_20) ?hi19_20 (by kernel_rfl) (by kernel_rfl) (by kernel_rfl) ?hq19_20 (Or.inl ⟨?hg19_20, ?hy19_20⟩) hHeld ?rest19_20
            case hi19_20 => (simp only [List.getElem?_toArray, List.getElem?_cons_succ, List.getElem?_cons_zero]; rfl)
            case hq19_20 => exact fun _ _ _ h => h
            case hg19_20 => rfl
            case hy19_20 => (intro w hSw; (try dsimp only at hSw); go_simp; (try with_reducible rfl))
            (try simp only [Act.put, List.setIfInBounds_toArray, List.set_cons_zero, List.set_cons_succ])
            refine wpAnyH_take (i := 20) (oi := ?o20_21) (v := ?v20_21) ?hi20_21 (by kernel_rfl) (by kernel_rfl) (by kernel_rfl) ?hq20_21 (Or.inl ⟨?hg20_21, ?hy20_21⟩) hHeld ?rest20_21
            case hi20_21 => (simp only [List.getElem?_toArray, List.getElem?_cons_succ, List.getElem?_cons_zero]; rfl)
            case hq20_21 => exact fun _ _ _ h => h
            case hg20_21 => rfl
            case hy20_21 => (intro w hSw; (try dsimp only at hSw); go_simp; (try with_reducible rfl))
            (try simp only [Act.put, List.setIfInBounds_toArray, List.set_cons_zero, List.set_cons_succ])
            refine wpAnyH_take (i := 21) (oi := ?o21_22) (v := .agg y.m.vs) ?hi21_22 (by kernel_rfl) (by kernel_rfl) (by kernel_rfl) ?hq21_22 (yieldsIf_cells ?hg21_22 85 (.tmp 37) ?hl21_22 ⟨g2, k * 35 + 1, none⟩ ?hx21_22 _ _ (fun w hw => hw.2.2.2.1) Tryz.underlying85 rfl info_rmsg21) hHeld ?rest21_22
            case hi21_22 => (simp only [List.getElem?_toArray, List.getElem?_cons_succ, List.getElem?_cons_zero]; rfl)
            case hq21_22 => exact fun _ _ _ h => h
            case hg21_22 => rfl
            case hl21_22 => rfl
            case hx21_22 => rfl
            (try simp only [Act.put, List.setIfInBounds_toArray, List.set_cons_zero, List.set_cons_succ])
            refine wpAnyH_ready (rs := [22]) (by kernel_rfl) (by simp) ?_
            refine AllReadyH.cons (o := ?p22_25) ?ho22_25 (fun KK hK => ?step22_25) ?more22_25
            case ho22_25 => (simp only [List.getElem?_toArray, List.getElem?_cons_succ, List.getElem?_cons_zero]; rfl)
            case step22_25 =>
              go_simp
              (go_at_call 119; (with_reducible refine (HS.out _ hHeld.2.2.2.2).mono ?_); rintro e w7 ⟨r, rfl, hb⟩)
              have hb7 := keepB hHeld.2.2.2.2 hb
              (try go_wp2_with fail)
              refine hK.out _ _ (ss_S E0.out E1.out F0.out F1.out hb7) (fun hH2 => ?_)
              clear hHeld hK KK
              have hHeld := hH2
              clear hH2
              (try simp only [Act.put, List.setIfInBounds_toArray, List.set_cons_zero, List.set_cons_succ])
              refine wpAnyH_take (i := 23) (oi := ?o23_23) (v := ?v23_23) ?hi23_23 (by kernel_rfl) (by kernel_rfl) (by kernel_rfl) ?hq23_23 (Or.inl ⟨?hg23_23, ?hy23_23⟩) hHeld ?rest23_23
              case hi23_23 => (simp only [List.getElem?_toArray, List.getElem?_cons_succ, List.getElem?_cons_zero]; rfl)
              case hq23_23 => exact fun _ _ _ h => h
              case hg23_23 => rfl
              case hy23_23 => (intro w hSw; (try dsimp only at hSw); go_simp; (try with_reducible rfl))
              (try simp only [Act.put, List.setIfInBounds_toArray, List.set_cons_zero, List.set_cons_succ])
              refine wpAnyH_take (i := 24) (oi := ?o24_24) (v := ?v24_24) ?hi24_24 (by kernel_rfl) (by kernel_rfl) (by kernel_rfl) ?hq24_24 (Or.inl ⟨?hg24_24, ?hy24_24⟩) hHeld ?rest24_24
              case hi24_24 => (simp only [List.getElem?_toArray, List.getElem?_cons_succ, List.getElem?_cons_zero]; rfl)
              case hq24_24 => exact fun _ _ _ h => h
              case hg24_24 => rfl
              case hy24_24 => (intro w hSw; (try dsimp only at hSw); go_simp; (try with_reducible rfl))
              (try simp only [Act.put, List.setIfInBounds_toArray, List.set_cons_zero, List.set_cons_succ])
              refine wpAnyH_done (by kernel_rfl) ?_ _
              go_wp2
              go_meet
              exact ⟨⟨_, rfl⟩, hb7⟩
            exact AllReadyH.nil
          · skip
            refine wp_region_held_drew (S := (fun w' => w'.cell? ⟨g1, k * 35, none⟩ = some (.int .i64 x.dest) ∧ CellRow w' ⟨g1, k * 35 + 1, none⟩ x.m.vs ∧ w'.cell? ⟨g2, k * 35, none⟩ = some (.int .i64 y.dest) ∧ CellRow w' ⟨g2, k * 35 + 1, none⟩ y.m.vs ∧ Below w.heap.size w w')) (by kernel_rfl) (ss_S E0.out E1.out F0.out F1.out (below_drew hw)) (fun hHeld => ?_)
            refine wpAnyH_take (i := 0) (oi := ?o0_26) (v := ?v0_26) ?hi0_26 (by kernel_rfl) (by kernel_rfl) (by kernel_rfl) ?hq0_26 (Or.inl ⟨?hg0_26, ?hy0_26⟩) hHeld ?rest0_26
            case hi0_26 => (simp only [List.getElem?_toArray, List.getElem?_cons_succ, List.getElem?_cons_zero]; rfl)
            case hq0_26 => exact fun _ _ _ h => h
            case hg0_26 => rfl
            case hy0_26 => (intro w hSw; (try dsimp only at hSw); go_simp; (try with_reducible rfl))
            (try simp only [Act.put, List.setIfInBounds_toArray, List.set_cons_zero, List.set_cons_succ])
            refine wpAnyH_take (i := 1) (oi := ?o1_27) (v := ?v1_27) ?hi1_27 (by kernel_rfl) (by kernel_rfl) (by kernel_rfl) ?hq1_27 (Or.inl ⟨?hg1_27, ?hy1_27⟩) hHeld ?rest1_27
            case hi1_27 => (simp only [List.getElem?_toArray, List.getElem?_cons_succ, List.getElem?_cons_zero]; rfl)
            case hq1_27 => exact fun _ _ _ h => h
            case hg1_27 => rfl
            case hy1_27 => (intro w hSw; (try dsimp only at hSw); go_simp; (try with_reducible rfl))
            (try simp only [Act.put, List.setIfInBounds_toArray, List.set_cons_zero, List.set_cons_succ])
            refine wpAnyH_take (i := 2) (oi := ?o2_28) (v := ?v2_28) ?hi2_28 (by kernel_rfl) (by kernel_rfl) (by kernel_rfl) ?hq2_28 (Or.inl ⟨?hg2_28, ?hy2_28⟩) hHeld ?rest2_28
            case hi2_28 => (simp only [List.getElem?_toArray, List.getElem?_cons_succ, List.getElem?_cons_zero]; rfl)
            case hq2_28 => exact fun _ _ _ h => h
            case hg2_28 => rfl
            case hy2_28 => (intro w hSw; (try dsimp only at hSw); go_simp; (try with_reducible rfl))
            (try simp only [Act.put, List.setIfInBounds_toArray, List.set_cons_zero, List.set_cons_succ])
            refine wpAnyH_take (i := 3) (oi := ?o3_29) (v := ?v3_29) ?hi3_29 (by kernel_rfl) (by kernel_rfl) (by kernel_rfl) ?hq3_29 (Or.inl ⟨?hg3_29, ?hy3_29⟩) hHeld ?rest3_29
            case hi3_29 => (simp only [List.getElem?_toArray, List.getElem?_cons_succ, List.getElem?_cons_zero]; rfl)
            case hq3_29 => exact fun _ _ _ h => h
            case hg3_29 => rfl
            case hy3_29 => (intro w hSw; (try dsimp only at hSw); go_simp; (try with_reducible rfl))
            (try simp only [Act.put, List.setIfInBounds_toArray, List.set_cons_zero, List.set_cons_succ])
            refine wpAnyH_take (i := 4) (oi := ?o4_30) (v := ?v4_30) ?hi4_30 (by kernel_rfl) (by kernel_rfl) (by kernel_rfl) ?hq4_30 (Or.inl ⟨?hg4_30, ?hy4_30⟩) hHeld ?rest4_30
            case hi4_30 => (simp only [List.getElem?_toArray, List.getElem?_cons_succ, List.getElem?_cons_zero]; rfl)
            case hq4_30 => exact fun _ _ _ h => h
            case hg4_30 => rfl
            case hy4_30 => (intro w hSw; (try dsimp only at hSw); go_simp; (try with_reducible rfl))
            (try simp only [Act.put, List.setIfInBounds_toArray, List.set_cons_zero, List.set_cons_succ])
            refine wpAnyH_take (i := 5) (oi := ?o5_31) (v := ?v5_31) ?hi5_31 (by kernel_rfl) (by kernel_rfl) (by kernel_rfl) ?hq5_31 (Or.inl ⟨?hg5_31, ?hy5_31⟩) hHeld ?rest5_31
            case hi5_31 => (simp only [List.getElem?_toArray, List.getElem?_cons_succ, List.getElem?_cons_zero]; rfl)
            case hq5_31 => exact fun _ _ _ h => h
            case hg5_31 => rfl
            case hy5_31 => (intro w hSw; (try dsimp only at hSw); go_simp; (try with_reducible rfl))
            (try simp only [Act.put, List.setIfInBounds_toArray, List.set_cons_zero, List.set_cons_succ])
            refine wpAnyH_take (i := 6) (oi := ?o6_32) (v := ?v6_32) ?hi6_32 (by kernel_rfl) (by kernel_rfl) (by kernel_rfl) ?hq6_32 (Or.inl ⟨?hg6_32, ?hy6_32⟩) hHeld ?rest6_32
            case hi6_32 => (simp only [List.getElem?_toArray, List.getElem?_cons_succ, List.getElem?_cons_zero]; rfl)
            case hq6_32 => exact fun _ _ _ h => h
            case hg6_32 => rfl
            case hy6_32 => (intro w hSw; (try dsimp only at hSw); go_simp; (try with_reducible rfl))
            (try simp only [Act.put, List.setIfInBounds_toArray, List.set_cons_zero, List.set_cons_succ])
            refine wpAnyH_take (i := 7) (oi := ?o7_33) (v := ?v7_33) ?hi7_33 (by kernel_rfl) (by kernel_rfl) (by kernel_rfl) ?hq7_33 (Or.inl ⟨?hg7_33, ?hy7_33⟩) hHeld ?rest7_33
            case hi7_33 => (simp only [List.getElem?_toArray, List.getElem?_cons_succ, List.getElem?_cons_zero]; rfl)
            case hq7_33 => exact fun _ _ _ h => h
            case hg7_33 => rfl
            case hy7_33 => (intro w hSw; (try dsimp only at hSw); go_simp; (try with_reducible rfl))
            (try simp only [Act.put, List.setIfInBounds_toArray, List.set_cons_zero, List.set_cons_succ])
            refine wpAnyH_take (i := 8) (oi := ?o8_34) (v := ?v8_34) ?hi8_34 (by kernel_rfl) (by kernel_rfl) (by kernel_rfl) ?hq8_34 (Or.inl ⟨?hg8_34, ?hy8_34⟩) hHeld ?rest8_34
            case hi8_34 => (simp only [List.getElem?_toArray, List.getElem?_cons_succ, List.getElem?_cons_zero]; rfl)
            case hq8_34 => exact fun _ _ _ h => h
            case hg8_34 => rfl
            case hy8_34 => (intro w hSw; (try dsimp only at hSw); go_simp; (try with_reducible rfl))
            (try simp only [Act.put, List.setIfInBounds_toArray, List.set_cons_zero, List.set_cons_succ])
            refine wpAnyH_take (i := 9) (oi := ?o9_35) (v := ?v9_35) ?hi9_35 (by kernel_rfl) (by kernel_rfl) (by kernel_rfl) ?hq9_35 (Or.inl ⟨?hg9_35, ?hy9_35⟩) hHeld ?rest9_35
            case hi9_35 => (simp only [List.getElem?_toArray, List.getElem?_cons_succ, List.getElem?_cons_zero]; rfl)
            case hq9_35 => exact fun _ _ _ h => h
            case hg9_35 => rfl
            case hy9_35 => (intro w hSw; (try dsimp only at hSw); go_simp; (try with_reducible rfl))
            (try simp only [Act.put, List.setIfInBounds_toArray, List.set_cons_zero, List.set_cons_succ])
            refine wpAnyH_take (i := 10) (oi := ?o10_36) (v := ?v10_36) ?hi10_36 (by kernel_rfl) (by kernel_rfl) (by kernel_rfl) ?hq10_36 (Or.inl ⟨?hg10_36, ?hy10_36⟩) hHeld ?rest10_36
            case hi10_36 => (simp only [List.getElem?_toArray, List.getElem?_cons_succ, List.getElem?_cons_zero]; rfl)
            case hq10_36 => exact fun _ _ _ h => h
            case hg10_36 => rfl
            case hy10_36 => (intro w hSw; (try dsimp only at hSw); go_simp; (try with_reducible rfl))
            (try simp only [Act.put, List.setIfInBounds_toArray, List.set_cons_zero, List.set_cons_succ])
            refine wpAnyH_take (i := 11) (oi := ?o11_37) (v := ?v11_37) ?hi11_37 (by kernel_rfl) (by kernel_rfl) (by kernel_rfl) ?hq11_37 (Or.inl ⟨?hg11_37, ?hy11_37⟩) hHeld ?rest11_37
            case hi11_37 => (simp only [List.getElem?_toArray, List.getElem?_cons_succ, List.getElem?_cons_zero]; rfl)
            case hq11_37 => exact fun _ _ _ h => h
            case hg11_37 => rfl
            case hy11_37 => (intro w hSw; (try dsimp only at hSw); go_simp; (try with_reducible rfl))
            (try simp only [Act.put, List.setIfInBounds_toArray, List.set_cons_zero, List.set_cons_succ])
            refine wpAnyH_take (i := 12) (oi := ?o12_38) (v := undef) ?hi12_38 (by kernel_rfl) (by kernel_rfl) (by kernel_rfl) ?hq12_38 (Or.inr ⟨?hg12_38, rfl⟩) hHeld ?rest12_38
            case hi12_38 => (simp only [List.getElem?_toArray, List.getElem?_cons_succ, List.getElem?_cons_zero]; rfl)
            case hq12_38 => exact fun _ _ _ h => h
            case hg12_38 => rfl
            (try simp only [Act.put, List.setIfInBounds_toArray, List.set_cons_zero, List.set_cons_succ])
            refine wpAnyH_take (i := 13) (oi := ?o13_39) (v := undef) ?hi13_39 (by kernel_rfl) (by kernel_rfl) (by kernel_rfl) ?hq13_39 (Or.inr ⟨?hg13_39, rfl⟩) hHeld ?rest13_39
            case hi13_39 => (simp only [List.getElem?_toArray, List.getElem?_cons_succ, List.getElem?_cons_zero]; rfl)
            case hq13_39 => exact fun _ _ _ h => h
            case hg13_39 => rfl
            (try simp only [Act.put, List.setIfInBounds_toArray, List.set_cons_zero, List.set_cons_succ])
            refine wpAnyH_take (i := 14) (oi := ?o14_40) (v := undef) ?hi14_40 (by kernel_rfl) (by kernel_rfl) (by kernel_rfl) ?hq14_40 (Or.inr ⟨?hg14_40, rfl⟩) hHeld ?rest14_40
            case hi14_40 => (simp only [List.getElem?_toArray, List.getElem?_cons_succ, List.getElem?_cons_zero]; rfl)
            case hq14_40 => exact fun _ _ _ h => h
            case hg14_40 => rfl
            (try simp only [Act.put, List.setIfInBounds_toArray, List.set_cons_zero, List.set_cons_succ])
            refine wpAnyH_take (i := 15) (oi := ?o15_41) (v := undef) ?hi15_41 (by kernel_rfl) (by kernel_rfl) (by kernel_rfl) ?hq15_41 (Or.inr ⟨?hg15_41, rfl⟩) hHeld ?rest15_41
            case hi15_41 => (simp only [List.getElem?_toArray, List.getElem?_cons_succ, List.getElem?_cons_zero]; rfl)
            case hq15_41 => exact fun _ _ _ h => h
            case hg15_41 => rfl
            (try simp only [Act.put, List.setIfInBounds_toArray, List.set_cons_zero, List.set_cons_succ])
            refine wpAnyH_take (i := 16) (oi := ?o16_42) (v := undef) ?hi16_42 (by kernel_rfl) (by kernel_rfl) (by kernel_rfl) ?hq16_42 (Or.inr ⟨?hg16_42, rfl⟩) hHeld ?rest16_42
            case hi16_42 => (simp only [List.getElem?_toArray, List.getElem?_cons_succ, List.getElem?_cons_zero]; rfl)
            case hq16_42 => exact fun _ _ _ h => h
            case hg16_42 => rfl
            (try simp only [Act.put, List.setIfInBounds_toArray, List.set_cons_zero, List.set_cons_succ])
            refine wpAnyH_take (i := 17) (oi := ?o17_43) (v := undef) ?hi17_43 (by kernel_rfl) (by kernel_rfl) (by kernel_rfl) ?hq17_43 (Or.inr ⟨?hg17_43, rfl⟩) hHeld ?rest17_43
            case hi17_43 => (simp only [List.getElem?_toArray, List.getElem?_cons_succ, List.getElem?_cons_zero]; rfl)
            case hq17_43 => exact fun _ _ _ h => h
            case hg17_43 => rfl
            (try simp only [Act.put, List.setIfInBounds_toArray, List.set_cons_zero, List.set_cons_succ])
            refine wpAnyH_take (i := 18) (oi := ?o18_44) (v := undef) ?hi18_44 (by kernel_rfl) (by kernel_rfl) (by kernel_rfl) ?hq18_44 (Or.inr ⟨?hg18_44, rfl⟩) hHeld ?rest18_44
            case hi18_44 => (simp only [List.getElem?_toArray, List.getElem?_cons_succ, List.getElem?_cons_zero]; rfl)
            case hq18_44 => exact fun _ _ _ h => h
            case hg18_44 => rfl
            (try simp only [Act.put, List.setIfInBounds_toArray, List.set_cons_zero, List.set_cons_succ])
            refine wpAnyH_take (i := 19) (oi := ?o19_45) (v := undef) ?hi19_45 (by kernel_rfl) (by kernel_rfl) (by kernel_rfl) ?hq19_45 (Or.inr ⟨?hg19_45, rfl⟩) hHeld ?rest19_45
            case hi19_45 => (simp only [List.getElem?_toArray, List.getElem?_cons_succ, List.getElem?_cons_zero]; rfl)
            case hq19_45 => exact fun _ _ _ h => h
            case hg19_45 => rfl
            (try simp only [Act.put, List.setIfInBounds_toArray, List.set_cons_zero, List.set_cons_succ])
            refine wpAnyH_take (i := 20) (oi := ?o20_46) (v := undef) ?hi20_46 (by kernel_rfl) (by kernel_rfl) (by kernel_rfl) ?hq20_46 (Or.inr ⟨?hg20_46, rfl⟩) hHeld ?rest20_46
            case hi20_46 => (simp only [List.getElem?_toArray, List.getElem?_cons_succ, List.getElem?_cons_zero]; rfl)
            case hq20_46 => exact fun _ _ _ h => h
            case hg20_46 => rfl
            (try simp only [Act.put, List.setIfInBounds_toArray, List.set_cons_zero, List.set_cons_succ])
            refine wpAnyH_take (i := 21) (oi := ?o21_47) (v := undef) ?hi21_47 (by kernel_rfl) (by kernel_rfl) (by kernel_rfl) ?hq21_47 (Or.inr ⟨?hg21_47, rfl⟩) hHeld ?rest21_47
            case hi21_47 => (simp only [List.getElem?_toArray, List.getElem?_cons_succ, List.getElem?_cons_zero]; rfl)
            case hq21_47 => exact fun _ _ _ h => h
            case hg21_47 => rfl
            (try simp only [Act.put, List.setIfInBounds_toArray, List.set_cons_zero, List.set_cons_succ])
            refine wpAnyH_take (i := 22) (oi := ?o22_48) (v := undef) ?hi22_48 (by kernel_rfl) (by kernel_rfl) (by kernel_rfl) ?hq22_48 (Or.inr ⟨?hg22_48, rfl⟩) hHeld ?rest22_48
            case hi22_48 => (simp only [List.getElem?_toArray, List.getElem?_cons_succ, List.getElem?_cons_zero]; rfl)
            case hq22_48 => exact fun _ _ _ h => h
            case hg22_48 => rfl
            (try simp only [Act.put, List.setIfInBounds_toArray, List.set_cons_zero, List.set_cons_succ])
            refine wpAnyH_take (i := 23) (oi := ?o23_49) (v := undef) ?hi23_49 (by kernel_rfl) (by kernel_rfl) (by kernel_rfl) ?hq23_49 (Or.inr ⟨?hg23_49, rfl⟩) hHeld ?rest23_49
            case hi23_49 => (simp only [List.getElem?_toArray, List.getElem?_cons_succ, List.getElem?_cons_zero]; rfl)
            case hq23_49 => exact fun _ _ _ h => h
            case hg23_49 => rfl
            (try simp only [Act.put, List.setIfInBounds_toArray, List.set_cons_zero, List.set_cons_succ])
            refine wpAnyH_take (i := 24) (oi := ?o24_50) (v := ?v24_50) ?hi24_50 (by kernel_rfl) (by kernel_rfl) (by kernel_rfl) ?hq24_50 (Or.inl ⟨?hg24_50, ?hy24_50⟩) hHeld ?rest24_50
            case hi24_50 => (simp only [List.getElem?_toArray, List.getElem?_cons_succ, List.getElem?_cons_zero]; rfl)
            case hq24_50 => exact fun _ _ _ h => h
            case hg24_50 => rfl
            case hy24_50 => (intro w hSw; (try dsimp only at hSw); go_simp; (try with_reducible rfl))
            (try simp only [Act.put, List.setIfInBounds_toArray, List.set_cons_zero, List.set_cons_succ])
            refine wpAnyH_done (by kernel_rfl) ?_ _
            go_wp2
            go_meet
            exact ⟨⟨_, rfl⟩, below_drew hw⟩
        case rest =>
          obtain ⟨⟨bb, rfl⟩, hw9⟩ := hcut
          obtain ⟨wy, rfl⟩ : ∃ wq : World, wq = wc := ⟨_, rfl⟩
          cases bb
          · go_wp2
            go_roundw
            case rel => exact ⟨k + 1, hk2.out, by go_num, hw9⟩
            case measure => have := hk2.out; simp [intOf]; omega
          · go_wp2
            go_ret
            exact ⟨_, rfl, hw9⟩
      · have ki : ¬ ((k : Int) < (l1.length : Int)) := by omega
        go_wp2
        go_ret
        exact ⟨_, rfl, hw⟩
  · have q0 : ((l1.length : Int) != (l2.length : Int)) = true := by rw [bne_iff_ne]; omega
    go_enter Tryz.func65, Tryz.ntmps65
    go_wp2
    go_ret
    exact ⟨_, rfl, Below.refl _ _⟩
end Go.Proofs.YtjgloipgnnigmaaGreatDoor
