/- The reference's store while bytes are read into it; what it makes of them. -/
import Derived.Test.YtboiafchmdflpaaDoorGI
import Derived.Test.YtboiafchmdflpaaDoorGE
import Derived.Test.YtboiafchmdflpaaDoorGH
namespace Go.Proofs.YtboiafchmdflpaaDoor
open Go.RowKit Go.Maps Go.Sort Go.Shelf

/-- The reference's store: its row lies behind it. -/
structure RefSt (w : World) (q : Nat) (v : Value) (L : List It) (la lo : Nat) : Prop where
  blk : w.heap[q]? = some (.cells #[v, .int .u64 (la : Int), .int .u64 (lo : Int)] 32 (0, 0))
  row : w.ownsRow (q + 1) 102 5 v L.length (itCs L)
section
variable {w w' : World} {q : Nat} {v : Value} {O : Nat → Prop} {L : List It} {la lo : Nat}
theorem RefSt.lt (h : RefSt w q v L la lo) : q < w.heap.size := (Array.getElem?_eq_some_iff.1 h.blk).1
theorem RefSt.ref (h : RefSt w q v L la lo) : RefIn w q q v (fun k => k = q ∨ v.ownBlock = some k) L la lo where
  blk := h.blk
  row := own_base h.row (Nat.le_succ q)
  hq := .inl rfl
  mine := fun g hg => ⟨.inr hg, fun e => by have := (h.row.lt g hg).1; omega⟩
  lt := fun k hk => hk.elim (fun e => by rw [e]; exact ⟨Nat.le_refl _, h.lt⟩) (fun hg => ⟨by have := (h.row.lt k hg).1; omega, (h.row.lt k hg).2⟩)
theorem RefSt.out (h : RefSt w q v L la lo) (hw : Out O w w') (ho : ∀ k, q ≤ k → ¬ O k) : RefSt w' q v L la lo :=
  ⟨hw.obj h.blk (ho q (Nat.le_refl _)), hw.row h.row (fun g hg => ho g (by have := (h.row.lt g hg).1; omega))⟩
theorem RefSt.later (h : RefSt w q v L la lo) (hb : Below w.heap.size w w') : RefSt w' q v L la lo :=
  h.out (O := fun _ => False) (Out.of_below hb) (fun _ _ h => h)
theorem RefSt.last (h : RefSt w q v L 0 lo) (n : Nat) : RefSt (w.setCell ⟨q, 1, none⟩ (.int .u64 (n : Int))) q v L n lo := by
  have hb := obj_set (j := 1) (.int .u64 (n : Int)) h.blk
  exact ⟨by simpa using hb, (out_cell w q 1 _).row h.row (fun g hg e => by have := (h.row.lt g hg).1; omega)⟩
theorem RefSt.low (h : RefSt w q v L la 0) (n : Nat) : RefSt (w.setCell ⟨q, 2, none⟩ (.int .u64 (n : Int))) q v L la n := by
  have hb := obj_set (j := 2) (.int .u64 (n : Int)) h.blk
  exact ⟨by simpa using hb, (out_cell w q 2 _).row h.row (fun g hg e => by have := (h.row.lt g hg).1; omega)⟩
theorem RefSt.push {v' : Value} {L' : List It} {X : List Value} {n : Nat} (h : w.heap[q]? = some (.cells #[v, .int .u64 (la : Int), .int .u64 (lo : Int)] 32 (0, 0))) (hr : w.ownsRow (q + 1) 102 5 v' n X) (hn : n = L'.length) (hX : X = itCs L') :
    RefSt (w.setCell ⟨q, 0, none⟩ v') q v' L' la lo := by
  subst hn hX
  have hb := obj_set (j := 0) v' h
  exact ⟨by simpa using hb, (out_cell w q 0 _).row hr (fun g hg e => by have := (hr.lt g hg).1; omega)⟩
end

/-! ### What the reference makes of bytes -/
theorem rimp_none {b : List UInt8} (h : impS b = none) {s : RS} {ks : KV} (_hr : rimpK b = some (s, items ks)) (hK : KVok (impLast b) (impLow b) ks) (hl : (items ks).length ≤ 8000) (hlow : impLow b ≤ impLast b) : expS ⟨ks, impLast b, impLow b⟩ ≠ b := by
  intro e
  have := impS_of (S := ⟨ks, impLast b, impLow b⟩) (hK.st hlow) hK.good e hl
  rw [h] at this
  cases this
theorem impS_le {b : List UInt8} {S : StD} (h : impS b = some S) (hb : b.length ≤ 71000) : (items S.ks).length ≤ 8000 := by
  unfold impS at h
  split at h
  · cases h
  · rename_i r hr
    have hlen := impK_len hr
    split at h
    · injection h with h
      subst h
      simp only
      omega
    · cases h
theorem rimp_some {b : List UInt8} {S : StD} (h : impS b = some S) (hb : b.length ≤ 71000) : rimpK b = some (some [], items S.ks) ∧ impLast b = S.last ∧ impLow b = S.low ∧ S.low ≤ S.last ∧ expS S = b := by
  obtain ⟨h1, h2, h3⟩ := impS_ok h
  have h4 := rimpK_exp h1 h2 (impS_le h hb)
  rw [h3] at h4
  exact ⟨h4.1, h4.2.1, h4.2.2, h1.low, h3⟩
def RImpPost (w : World) (b : List UInt8) (e : Ending) (w' : World) : Prop :=
  match impS b with
  | none => e = .returned (.tuple #[.pointer none, .int .i64 2]) ∧ Below w.heap.size w w'
  | some s => ∃ q O, e = .returned (.tuple #[.pointer (some ⟨q, 0, none⟩), .int .i64 0]) ∧ RefAt w' w.heap.size q O (items s.ks) s.last s.low ∧ Below w.heap.size w w'
theorem RImpPost.no {w w' : World} {b : List UInt8} (h : impS b = none) (hb : Below w.heap.size w w') : RImpPost w b (.returned (.tuple #[.pointer none, .int .i64 2])) w' := by
  rw [RImpPost, h]
  exact ⟨rfl, hb⟩
theorem rimp_bad {b : List UInt8} (h : rimpK b = none) (hb : b.length ≤ 71000) : impS b = none := by
  cases e : impS b with
  | none => rfl
  | some S => rw [(rimp_some e hb).1] at h; cases h
theorem rimp_not {b : List UInt8} {s : RS} {ks : KV} (hr : rimpK b = some (s, items ks)) (hb : b.length ≤ 71000) (h : impLast b < impLow b ∨ s = none) : impS b = none := by
  cases e : impS b with
  | none => rfl
  | some S =>
    obtain ⟨h1, h2, h3, h4, h5⟩ := rimp_some e hb
    rw [h1] at hr
    injection hr with hr
    injection hr with hr _
    rcases h with h | h
    · omega
    · rw [h] at hr; cases hr
theorem items_inj_st {b : List UInt8} {S : StD} {s : RS} {ks : KV} (e : impS b = some S) (hb : b.length ≤ 71000) (hr : rimpK b = some (s, items ks)) : items S.ks = items ks := by
  have h1 := (rimp_some e hb).1
  rw [h1] at hr
  injection hr with hr
  injection hr with _ hr
theorem rversF_end {last low m : Nat} {k : ByteArray} {s : RS} {L : List It} (h : m = 0 ∨ s = none) : rversF last low k m s L = some (s, L) := by
  cases m with
  | zero => rfl
  | succ n =>
    rcases h with h | h
    · cases h
    · subst h; rfl
theorem rkeysF_end {last low m : Nat} {s : RS} {L : List It} (h : m = 0 ∨ s = none) : rkeysF last low m s L = some (s, L) := by
  cases m with
  | zero => rfl
  | succ n =>
    rcases h with h | h
    · cases h
    · subst h; rfl
end Go.Proofs.YtboiafchmdflpaaDoor
