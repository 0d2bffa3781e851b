/- What bytes are read as a store, in plain Lean. -/
import Derived.Test.YtboiafchmdflpaaGreatDoorGE
namespace Go.Proofs.YtboiafchmdflpaaGreatDoor
open Go.RowKit

def versS : Nat → RS → List Ver × RS
  | 0, s => ([], s)
  | _ + 1, none => ([], none)
  | m + 1, some b => (⟨(takeN (some b) 8).1, (takeV (takeN (some b) 8).2).1⟩ :: (versS m (takeV (takeN (some b) 8).2).2).1, (versS m (takeV (takeN (some b) 8).2).2).2)
def fitAt (last low : Nat) (l : List Ver) (i : Nat) : Bool :=
  !(decide (last < (l.getD i noVer).num) || decide ((l.getD i noVer).num = 0) || (decide (0 < i) && decide ((l.getD (i - 1) noVer).num ≤ (l.getD i noVer).num)) || (decide (0 < i) && decide ((l.getD (i - 1) noVer).num ≤ low)) || (decide ((l.getD i noVer).num ≤ low) && decide ((l.getD i noVer).val.kind = 0)))
def fitsB (last low : Nat) (l : List Ver) : Bool := decide (0 < l.length) && (List.range l.length).all (fitAt last low l)
def keysS (last low : Nat) : Nat → RS → KV → Option (RS × KV)
  | 0, s, ks => some (s, ks)
  | _ + 1, none, ks => some (none, ks)
  | n + 1, some b, ks =>
    if keyB (takeT (some b) 12).1 && fitsB last low (versS (takeN (takeT (some b) 12).2 4).1 (takeN (takeT (some b) 12).2 4).2).1 then
      keysS last low n (versS (takeN (takeT (some b) 12).2 4).1 (takeN (takeT (some b) 12).2 4).2).2 (putK ks (takeT (some b) 12).1 (versS (takeN (takeT (some b) 12).2 4).1 (takeN (takeT (some b) 12).2 4).2).1)
    else none
def impK (b : List UInt8) : Option (RS × KV) := keysS (takeN (some b) 8).1 (takeN (takeN (some b) 8).2 8).1 (takeN (takeN (takeN (some b) 8).2 8).2 4).1 (takeN (takeN (takeN (some b) 8).2 8).2 4).2 []
def impLast (b : List UInt8) : Nat := (takeN (some b) 8).1
def impLow (b : List UInt8) : Nat := (takeN (takeN (some b) 8).2 8).1
def impS (b : List UInt8) : Option StD :=
  match impK b with
  | none => none
  | some r => if impLow b ≤ impLast b ∧ expS ⟨r.2, impLast b, impLow b⟩ = b then some ⟨r.2, impLast b, impLow b⟩ else none

/-! ### Versions that fit -/
structure FitL (last low : Nat) (l : List Ver) : Prop where
  ne : l ≠ []
  falls : Falls l
  top : ∀ v ∈ l, 1 ≤ v.num ∧ v.num ≤ last
  cut : colV l low = l
theorem cut_iff (low : Nat) : ∀ l : List Ver, colV l low = l ↔ (∀ v ∈ l.dropLast, low < v.num) ∧ ∀ v, l.getLast? = some v → v.num ≤ low → v.val.kind ≠ 0
  | [] => by simp [colV]
  | [a] => by
    rw [colV]
    by_cases h : low < a.num
    · simp [h, colV]
      try omega
    · by_cases hk : a.val.kind = 0
      · simp [h, hk]
        try omega
      · simp [h, hk]
  | a :: b :: l => by
    have ih := cut_iff low (b :: l)
    rw [colV]
    by_cases h : low < a.num
    · rw [if_pos h]
      simp only [List.cons.injEq, true_and, ih, List.dropLast_cons_cons, List.mem_cons, List.getLast?_cons_cons]
      constructor
      · rintro ⟨h1, h2⟩
        exact ⟨fun v hv => hv.elim (fun e => e ▸ h) (h1 v), h2⟩
      · rintro ⟨h1, h2⟩
        exact ⟨fun v hv => h1 v (.inr hv), h2⟩
    · rw [if_neg h]
      constructor
      · intro e
        split at e <;> simp at e
      · rintro ⟨h1, _⟩
        exact absurd (h1 a (by simp)) h
theorem getD_at {l : List Ver} {i : Nat} (h : i < l.length) : l.getD i noVer = l[i] := by rw [List.getD_eq_getElem?_getD, List.getElem?_eq_getElem h]; rfl
theorem fitAt_iff {last low : Nat} {l : List Ver} {i : Nat} : fitAt last low l i = true ↔ (l.getD i noVer).num ≤ last ∧ 1 ≤ (l.getD i noVer).num ∧ (0 < i → (l.getD i noVer).num < (l.getD (i - 1) noVer).num) ∧ (0 < i → low < (l.getD (i - 1) noVer).num) ∧ ((l.getD i noVer).num ≤ low → (l.getD i noVer).val.kind ≠ 0) := by
  unfold fitAt
  simp only [Bool.not_eq_true', Bool.or_eq_false_iff, Bool.and_eq_false_iff, decide_eq_false_iff_not]
  constructor
  · rintro ⟨⟨⟨⟨h1, h2⟩, h3⟩, h4⟩, h5⟩
    refine ⟨by omega, by omega, fun h => ?_, fun h => ?_, fun h => ?_⟩
    · rcases h3 with h3 | h3 <;> omega
    · rcases h4 with h4 | h4 <;> omega
    · rcases h5 with h5 | h5
      · omega
      · exact h5
  · rintro ⟨h1, h2, h3, h4, h5⟩
    refine ⟨⟨⟨⟨by omega, by omega⟩, ?_⟩, ?_⟩, ?_⟩
    · by_cases h : 0 < i
      · have := h3 h; right; omega
      · left; exact h
    · by_cases h : 0 < i
      · have := h4 h; right; omega
      · left; exact h
    · by_cases h : (l.getD i noVer).num ≤ low
      · right; exact h5 h
      · left; exact h
theorem falls_of {l : List Ver} (h : ∀ i, 0 < i → i < l.length → (l.getD i noVer).num < (l.getD (i - 1) noVer).num) : Falls l := by
  induction l with
  | nil => exact List.Pairwise.nil
  | cons a l ih =>
    have h1 := ih fun i h0 hi => by
      have := h (i + 1) (by omega) (by simpa using hi)
      rw [show i + 1 - 1 = (i - 1) + 1 by omega] at this
      simpa using this
    refine List.pairwise_cons.2 ⟨fun v hv => ?_, h1⟩
    obtain ⟨j, hj, rfl⟩ := List.mem_iff_getElem.1 hv
    have h2 : ∀ j (hj : j < l.length), l[j].num < a.num := by
      intro j
      induction j with
      | zero =>
        intro hj
        have h9 := h 1 (by omega) (by rw [List.length_cons]; omega)
        rw [Nat.sub_self, List.getD_cons_succ, List.getD_cons_zero, getD_at hj] at h9
        exact h9
      | succ j ihj =>
        intro hj
        have h3 := ihj (by omega)
        have h4 := h (j + 2) (by omega) (by rw [List.length_cons]; omega)
        rw [show j + 2 - 1 = j + 1 by omega] at h4
        simp only [List.getD_cons_succ] at h4
        rw [getD_at hj, getD_at (by omega)] at h4
        omega
    exact h2 j hj
theorem fitsB_iff {last low : Nat} {l : List Ver} : fitsB last low l = true ↔ FitL last low l := by
  unfold fitsB
  simp only [Bool.and_eq_true, decide_eq_true_eq, List.all_eq_true, List.mem_range]
  constructor
  · rintro ⟨h0, h⟩
    have h' := fun i hi => fitAt_iff.1 (h i hi)
    refine ⟨List.length_pos_iff.1 h0, falls_of fun i hi hl => (h' i hl).2.2.1 hi, fun v hv => ?_, (cut_iff low l).2 ⟨fun v hv => ?_, fun v hv hn => ?_⟩⟩
    · obtain ⟨i, hi, rfl⟩ := List.mem_iff_getElem.1 hv
      have := h' i hi
      rw [getD_at hi] at this
      exact ⟨this.2.1, this.1⟩
    · obtain ⟨i, hi, rfl⟩ := List.mem_iff_getElem.1 hv
      rw [List.length_dropLast] at hi
      have := (h' (i + 1) (by omega)).2.2.2.1 (by omega)
      rw [Nat.add_sub_cancel, getD_at (by omega)] at this
      rw [List.getElem_dropLast]
      exact this
    · rw [List.getLast?_eq_getElem?] at hv
      obtain ⟨hi, rfl⟩ := List.getElem?_eq_some_iff.1 hv
      have := (h' (l.length - 1) hi).2.2.2.2
      rw [getD_at hi] at this
      exact this hn
  · rintro ⟨h1, h2, h3, h4⟩
    have h5 := (cut_iff low l).1 h4
    refine ⟨List.length_pos_iff.2 h1, fun i hi => fitAt_iff.2 ?_⟩
    have hm := h3 _ (List.getElem_mem hi)
    rw [getD_at hi]
    refine ⟨hm.2, hm.1, fun h0 => ?_, fun h0 => ?_, fun hn => ?_⟩
    · rw [getD_at (by omega)]
      exact List.pairwise_iff_getElem.1 h2 (i - 1) i (by omega) hi (by omega)
    · rw [getD_at (by omega)]
      refine h5.1 _ (List.mem_iff_getElem.2 ⟨i - 1, by rw [List.length_dropLast]; omega, by rw [List.getElem_dropLast]⟩)
    · by_cases hl : i = l.length - 1
      · refine h5.2 _ ?_ hn
        rw [List.getLast?_eq_getElem?, ← hl, List.getElem?_eq_getElem hi]
      · have := h5.1 l[i] (List.mem_iff_getElem.2 ⟨i, by rw [List.length_dropLast]; omega, by rw [List.getElem_dropLast]⟩)
        omega

/-! ### Values that are taken -/
theorem zVal_formed : formedV zVal = true := by decide
theorem takeV_formed (s : RS) : formedV (takeV s).1 = true := by
  unfold takeV
  dsimp only
  by_cases h : ((if (takeN s 1).1 = 2 then takeT (if (takeN s 1).1 = 1 then takeN (takeN s 1).2 8 else (0, (takeN s 1).2)).2 40 else (noStr, (if (takeN s 1).1 = 1 then takeN (takeN s 1).2 8 else (0, (takeN s 1).2)).2)).2.isSome && formedV ⟨((takeN s 1).1 : Nat), (if (takeN s 1).1 = 1 then takeN (takeN s 1).2 8 else (0, (takeN s 1).2)).1, (if (takeN s 1).1 = 2 then takeT (if (takeN s 1).1 = 1 then takeN (takeN s 1).2 8 else (0, (takeN s 1).2)).2 40 else (noStr, (if (takeN s 1).1 = 1 then takeN (takeN s 1).2 8 else (0, (takeN s 1).2)).2)).1⟩) = true
  · rw [if_pos h]
    simp only [Bool.and_eq_true] at h
    exact h.2
  · rw [if_neg h]
    exact zVal_formed
theorem versS_vals : ∀ (m : Nat) (s : RS), ∀ v ∈ (versS m s).1, formedV v.val = true ∧ v.val.bits < 18446744073709551616
  | 0, s, v, hv => by cases hv
  | m + 1, none, v, hv => by cases hv
  | m + 1, some b, v, hv => by
    rcases List.mem_cons.1 hv with rfl | hv
    · exact ⟨takeV_formed _, (takeV_small _).1⟩
    · exact versS_vals m _ v hv
structure KVok (last low : Nat) (ks : KV) : Prop where
  rises : RisesK ks
  fit : ∀ p ∈ ks, FitL last low p.2
  key : ∀ p ∈ ks, keyB p.1 = true
  val : ∀ p ∈ ks, ∀ v ∈ p.2, formedV v.val = true ∧ v.val.bits < 18446744073709551616
theorem KVok.nil (last low : Nat) : KVok last low [] := ⟨by simp [RisesK], by simp, by simp, by simp⟩
theorem KVok.put {last low : Nat} {ks : KV} (h : KVok last low ks) {k : ByteArray} {l : List Ver} (hk : keyB k = true) (hl : FitL last low l) (hv : ∀ v ∈ l, formedV v.val = true ∧ v.val.bits < 18446744073709551616) : KVok last low (putK ks k l) := by
  refine ⟨putK_rises h.rises _ _, fun p hp => ?_, fun p hp => ?_, fun p hp => ?_⟩ <;> rcases mem_putK hp with rfl | hp
  · exact hl
  · exact h.fit p hp
  · exact hk
  · exact h.key p hp
  · exact hv
  · exact h.val p hp
theorem keysS_ok {last low : Nat} : ∀ (n : Nat) (s : RS) {ks : KV}, KVok last low ks → ∀ {r : RS × KV}, keysS last low n s ks = some r → KVok last low r.2
  | 0, s, ks, h, r, e => by
    simp only [keysS, Option.some.injEq] at e
    subst e; exact h
  | n + 1, none, ks, h, r, e => by
    simp only [keysS, Option.some.injEq] at e
    subst e; exact h
  | n + 1, some b, ks, h, r, e => by
    rw [keysS] at e
    split at e
    · rename_i hc
      simp only [Bool.and_eq_true] at hc
      exact keysS_ok n _ (h.put hc.1 (fitsB_iff.1 hc.2) (versS_vals _ _)) e
    · cases e
theorem KVok.st {last low : Nat} {ks : KV} (h : KVok last low ks) (hl : low ≤ last) : StOK ⟨ks, last, low⟩ :=
  { rises := h.rises, ne := fun p hp => (h.fit p hp).ne, falls := fun p hp => (h.fit p hp).falls, top := fun p hp => (h.fit p hp).top, key := h.key, val := fun p hp v hv => (h.val p hp v hv).1, cut := fun p hp => (h.fit p hp).cut, low := hl }
theorem impLast_lt (b : List UInt8) : impLast b < 18446744073709551616 := takeN_lt _ 8
theorem impLow_lt (b : List UInt8) : impLow b < 18446744073709551616 := takeN_lt _ 8
theorem KVok.good {b : List UInt8} {ks : KV} (h : KVok (impLast b) (impLow b) ks) : StGood ⟨ks, impLast b, impLow b⟩ := ⟨fun p hp v hv => (h.val p hp v hv).2, impLast_lt b, impLow_lt b⟩
theorem impK_ok {b : List UInt8} {r : RS × KV} (h : impK b = some r) : KVok (impLast b) (impLow b) r.2 := keysS_ok _ _ (KVok.nil _ _) h
theorem impS_ok {b : List UInt8} {S : StD} (h : impS b = some S) : StOK S ∧ StGood S ∧ expS S = b := by
  unfold impS at h
  split at h
  · cases h
  · rename_i r hr
    split at h
    · rename_i hc
      injection h with h
      subst h
      exact ⟨(impK_ok hr).st hc.1, (impK_ok hr).good, hc.2⟩
    · cases h

/-! ### What is exported is read as it was -/
theorem versS_put : ∀ (l : List Ver), (∀ v ∈ l, v.num < 18446744073709551616 ∧ formedV v.val = true ∧ v.val.bits < 18446744073709551616) → ∀ r, versS l.length (some (l.flatMap encVer ++ r)) = (l, some r)
  | [], _, r => rfl
  | v :: l, h, r => by
    have hv := h v (by simp)
    have e1 := takeN_put (x := v.num) (n := 8) (by omega) (encV v.val ++ (l.flatMap encVer ++ r))
    have e2 := takeV_put hv.2.2 hv.2.1 (l.flatMap encVer ++ r)
    have e3 := versS_put l (fun u hu => h u (by simp [hu])) r
    rw [List.flatMap_cons, show encVer v ++ l.flatMap encVer ++ r = beL v.num 8 ++ (encV v.val ++ (l.flatMap encVer ++ r)) by simp [encVer, putV, hv.2.1], List.length_cons, versS]
    simp only [e1, e2, e3]
theorem putK_snoc : ∀ {m : KV} {k : ByteArray} {l : List Ver}, (∀ p ∈ m, lessS p.1 k = true) → putK m k l = m ++ [(k, l)]
  | [], _, _, _ => rfl
  | p :: m, k, l, h => by rw [putK, if_pos (h p (by simp)), putK_snoc (fun q hq => h q (by simp [hq]))]; rfl
theorem keysS_put {last low : Nat} (hlast : last < 18446744073709551616) : ∀ (m pre : KV), KVok last low (pre ++ m) → (∀ p ∈ m, p.2.length < 4294967296) → ∀ r, keysS last low m.length (some (m.flatMap encK ++ r)) pre = some (some r, pre ++ m)
  | [], pre, _, _, r => by simp [keysS]
  | p :: m, pre, h, hn, r => by
    have hp := h.fit p (by simp)
    have hk := h.key p (by simp)
    have hv := h.val p (by simp)
    have e1 := takeT_put (s := p.1) (most := 12) (keyB_12 hk) (by decide) (beL p.2.length 4 ++ (p.2.flatMap encVer ++ (m.flatMap encK ++ r)))
    have e2 := takeN_put (x := p.2.length) (n := 4) (hn p (by simp)) (p.2.flatMap encVer ++ (m.flatMap encK ++ r))
    have e3 := versS_put p.2 (fun v hv' => ⟨by have := (hp.top v hv').2; omega, hv v hv'⟩) (m.flatMap encK ++ r)
    have hlt : ∀ q ∈ pre, lessS q.1 p.1 = true := fun q hq => (List.pairwise_append.1 h.rises).2.2 q hq p (by simp)
    have e4 := keysS_put hlast m (pre ++ [p]) (by rw [List.append_assoc]; exact h) (fun q hq => hn q (by simp [hq])) r
    rw [List.flatMap_cons, show encK p ++ m.flatMap encK ++ r = beL p.1.size 2 ++ p.1.data.toList ++ (beL p.2.length 4 ++ (p.2.flatMap encVer ++ (m.flatMap encK ++ r))) by simp [encK], List.length_cons, keysS]
    simp only [e1, e2, e3]
    rw [if_pos (by simp [hk, fitsB_iff.2 hp]), putK_snoc hlt]
    rw [e4, List.append_assoc]
    rfl
theorem StOK.kv {S : StD} (h : StOK S) (hg : StGood S) : KVok S.last S.low S.ks :=
  ⟨h.rises, fun p hp => ⟨h.ne p hp, h.falls p hp, h.top p hp, h.cut p hp⟩, h.key, fun p hp v hv => ⟨h.val p hp v hv, hg.vals p hp v hv⟩⟩
theorem imp_heads {S : StD} (hg : StGood S) (hn : S.ks.length < 4294967296) : takeN (some (expS S)) 8 = (S.last, some (beL S.low 8 ++ (beL S.ks.length 4 ++ S.ks.flatMap encK))) ∧ takeN (some (beL S.low 8 ++ (beL S.ks.length 4 ++ S.ks.flatMap encK))) 8 = (S.low, some (beL S.ks.length 4 ++ S.ks.flatMap encK)) ∧
    takeN (some (beL S.ks.length 4 ++ S.ks.flatMap encK)) 4 = (S.ks.length, some (S.ks.flatMap encK)) := by
  refine ⟨?_, takeN_put (x := S.low) (n := 8) hg.low _, takeN_put (x := S.ks.length) (n := 4) hn _⟩
  have := takeN_put (x := S.last) (n := 8) hg.last (beL S.low 8 ++ (beL S.ks.length 4 ++ S.ks.flatMap encK))
  rw [show expS S = beL S.last 8 ++ (beL S.low 8 ++ (beL S.ks.length 4 ++ S.ks.flatMap encK)) by simp [expS, expH, List.append_assoc]]
  exact this
theorem impS_exp {S : StD} (h : StOK S) (hg : StGood S) (hI : (items S.ks).length ≤ 8000) : impS (expS S) = some S := by
  have hn : S.ks.length ≤ 8000 := Nat.le_trans (items_ge h.ne) hI
  obtain ⟨e1, e2, e3⟩ := imp_heads hg (by omega)
  have hl : impLast (expS S) = S.last := by rw [impLast, e1]
  have hw : impLow (expS S) = S.low := by rw [impLow, e1]; simp only [e2]
  have hk : impK (expS S) = some (some [], S.ks) := by
    have h9 : ∀ p ∈ S.ks, p.2.length < 4294967296 := fun p hp => by
      have h1 := getK_len S.ks p.1
      rw [getK_mem h.rises (l := p.2) hp] at h1
      omega
    have := keysS_put hg.last S.ks [] (h.kv hg) h9 []
    unfold impK
    simp only [e1, e2, e3]
    rw [List.append_nil] at this
    exact this
  unfold impS
  rw [hk]
  simp only [hl, hw]
  rw [if_pos ⟨h.low, trivial⟩]
end Go.Proofs.YtboiafchmdflpaaGreatDoor
/- What bytes are read as a store: how many versions; the reference's reading, in plain Lean. -/
namespace Go.Proofs.YtboiafchmdflpaaGreatDoor
open Go.RowKit

/-! ### How many -/
def left : RS → Nat
  | none => 0
  | some b => b.length + 9
theorem takeN_left (s : RS) (n : Nat) : left (takeN s n).2 ≤ left s - n := by
  cases s with
  | none => simp [takeN, left]
  | some b =>
    rw [takeN_some]
    split
    · simp only [left, List.length_drop]; omega
    · simp [left]
theorem takeT_left (s : RS) (m : Nat) : left (takeT s m).2 ≤ left s - 2 := by
  have h := takeN_left s 2
  unfold takeT
  split
  · exact Nat.zero_le _
  · rename_i l hl
    rw [hl] at h
    split
    · simp only [left, List.length_drop] at h ⊢; omega
    · exact Nat.zero_le _
theorem left_if {c : Bool} {v : Val} {s : RS} : left (if c then (v, s) else (zVal, none)).2 ≤ left s := by
  cases c
  · exact Nat.zero_le _
  · exact Nat.le_refl _
theorem takeV_left (s : RS) : left (takeV s).2 ≤ left s - 1 := by
  have h1 := takeN_left s 1
  refine Nat.le_trans left_if ?_
  by_cases k2 : (takeN s 1).1 = 2
  · have k1 : ¬ (takeN s 1).1 = 1 := by omega
    rw [if_pos k2, if_neg k1]
    have := takeT_left (takeN s 1).2 40
    simp only at this ⊢
    omega
  · rw [if_neg k2]
    by_cases k1 : (takeN s 1).1 = 1
    · rw [if_pos k1]
      have := takeN_left (takeN s 1).2 8
      simp only at this ⊢
      omega
    · rw [if_neg k1]
      exact h1
theorem versS_len : ∀ (m : Nat) (s : RS), (versS m s).1.length * 9 + left (versS m s).2 ≤ left s
  | 0, s => by simp [versS]
  | m + 1, none => by simp [versS, left]
  | m + 1, some b => by
    have h1 := takeN_left (some b) 8
    have h2 := takeV_left (takeN (some b) 8).2
    have h3 := versS_len m (takeV (takeN (some b) 8).2).2
    rw [versS]
    simp only [List.length_cons]
    have h0 : left (some b) = b.length + 9 := rfl
    omega
theorem items_putK_le : ∀ (m : KV) (k : ByteArray) (l : List Ver), (items (putK m k l)).length ≤ (items m).length + l.length
  | [], k, l => by rw [putK, items_cons_len]; simp [items]
  | p :: m, k, l => by
    have ih := items_putK_le m k l
    rw [putK]
    split
    · rw [items_cons_len, items_cons_len]; omega
    · split
      · rw [items_cons_len, items_cons_len]; simp only; omega
      · rw [items_cons_len]; simp only; omega
theorem keysS_len {last low : Nat} : ∀ (n : Nat) (s : RS) (ks : KV) {r : RS × KV}, keysS last low n s ks = some r → (items r.2).length * 9 + left r.1 ≤ (items ks).length * 9 + left s
  | 0, s, ks, r, e => by
    simp only [keysS, Option.some.injEq] at e
    subst e; exact Nat.le_refl _
  | n + 1, none, ks, r, e => by
    simp only [keysS, Option.some.injEq] at e
    subst e; exact Nat.le_refl _
  | n + 1, some b, ks, r, e => by
    rw [keysS] at e
    split at e
    · have h1 := takeT_left (some b) 12
      have h2 := takeN_left (takeT (some b) 12).2 4
      have h3 := versS_len (takeN (takeT (some b) 12).2 4).1 (takeN (takeT (some b) 12).2 4).2
      have h4 := items_putK_le ks (takeT (some b) 12).1 (versS (takeN (takeT (some b) 12).2 4).1 (takeN (takeT (some b) 12).2 4).2).1
      have h5 := keysS_len n _ _ e
      omega
    · cases e
theorem impK_len {b : List UInt8} {r : RS × KV} (h : impK b = some r) : (items r.2).length * 9 ≤ b.length := by
  have h1 := keysS_len _ _ _ h
  have h2 := takeN_left (some b) 8
  have h3 := takeN_left (takeN (some b) 8).2 8
  have h4 := takeN_left (takeN (takeN (some b) 8).2 8).2 4
  have h5 : left (some b) = b.length + 9 := rfl
  simp only [items, List.flatMap_nil, List.length_nil] at h1
  have h6 : (items r.2).length = (List.flatMap itemsOf r.2).length := rfl
  omega

/-! ### The reference's -/
def lastI (L : List It) : It := L.getD (L.length - 1) noIt
def canB (last low : Nat) (L : List It) (x : It) : Bool :=
  keyB x.key && !decide (x.num = 0) && decide (x.num ≤ last) && !(decide (x.num ≤ low) && decide (x.val.kind = 0)) &&
    (decide (L.length = 0) || lessS (lastI L).key x.key || (decide ((lastI L).key = x.key) && decide (x.num < (lastI L).num) && decide (low < (lastI L).num)))
def rversF (last low : Nat) (k : ByteArray) : Nat → RS → List It → Option (RS × List It)
  | 0, s, L => some (s, L)
  | _ + 1, none, L => some (none, L)
  | n + 1, some b, L =>
    if canB last low L ⟨k, (takeV (takeN (some b) 8).2).1, (takeN (some b) 8).1⟩ then rversF last low k n (takeV (takeN (some b) 8).2).2 (L ++ [⟨k, (takeV (takeN (some b) 8).2).1, (takeN (some b) 8).1⟩]) else none
def rkeysF (last low : Nat) : Nat → RS → List It → Option (RS × List It)
  | 0, s, L => some (s, L)
  | _ + 1, none, L => some (none, L)
  | n + 1, some b, L =>
    match rversF last low (takeT (some b) 12).1 (takeN (takeT (some b) 12).2 4).1 (takeN (takeT (some b) 12).2 4).2 L with
    | none => none
    | some r => rkeysF last low n r.1 r.2
def rimpK (b : List UInt8) : Option (RS × List It) := rkeysF (impLast b) (impLow b) (takeN (takeN (takeN (some b) 8).2 8).2 4).1 (takeN (takeN (takeN (some b) 8).2 8).2 4).2 []
def KVg (last low : Nat) (L : List It) : Prop := ∃ ks, L = items ks ∧ KVok last low ks
theorem lastI_snoc (L : List It) (x : It) : lastI (L ++ [x]) = x := by
  rw [lastI, List.length_append, List.length_singleton, Nat.add_sub_cancel, List.getD_eq_getElem?_getD, List.getElem?_append_right (Nat.le_refl _), Nat.sub_self]
  rfl
theorem fit_one {last low : Nat} {v : Ver} (h1 : 1 ≤ v.num) (h2 : v.num ≤ last) (h3 : v.num ≤ low → v.val.kind ≠ 0) : FitL last low [v] :=
  ⟨by simp, by simp [Falls], by simpa using ⟨h1, h2⟩, (cut_iff low [v]).2 ⟨by simp, fun u hu hn => by simp at hu; subst hu; exact h3 hn⟩⟩
theorem fit_snoc {last low : Nat} {l : List Ver} {u v : Ver} (h : FitL last low (l ++ [u])) (h1 : 1 ≤ v.num) (h2 : v.num ≤ last) (h3 : v.num ≤ low → v.val.kind ≠ 0) (h4 : v.num < u.num) (h5 : low < u.num) : FitL last low (l ++ [u] ++ [v]) := by
  refine ⟨by simp, List.pairwise_append.2 ⟨h.falls, by simp, fun a ha b hb => ?_⟩, fun a ha => ?_, (cut_iff low _).2 ⟨fun a ha => ?_, fun a ha hn => ?_⟩⟩
  · simp only [List.mem_singleton] at hb
    subst hb
    rcases List.mem_append.1 ha with ha | ha
    · have := (List.pairwise_append.1 h.falls).2.2 a ha u (by simp)
      omega
    · simp only [List.mem_singleton] at ha
      subst ha; exact h4
  · rcases List.mem_append.1 ha with ha | ha
    · exact h.top a ha
    · simp only [List.mem_singleton] at ha
      subst ha; exact ⟨h1, h2⟩
  · rw [List.dropLast_concat] at ha
    rcases List.mem_append.1 ha with ha | ha
    · have := ((cut_iff low _).1 h.cut).1 a (by rw [List.dropLast_concat]; exact ha)
      exact this
    · simp only [List.mem_singleton] at ha
      subst ha; exact h5
  · rw [List.getLast?_concat] at ha
    injection ha with ha
    subst ha; exact h3 hn
theorem can_parts {last low : Nat} {L : List It} {x : It} (h : canB last low L x = true) : keyB x.key = true ∧ 1 ≤ x.num ∧ x.num ≤ last ∧ (x.num ≤ low → x.val.kind ≠ 0) ∧ (L.length = 0 ∨ lessS (lastI L).key x.key = true ∨ ((lastI L).key = x.key ∧ x.num < (lastI L).num ∧ low < (lastI L).num)) := by
  simp only [canB, Bool.and_eq_true, Bool.not_eq_true', decide_eq_true_eq, decide_eq_false_iff_not, Bool.or_eq_true, Bool.and_eq_false_iff] at h
  obtain ⟨⟨⟨⟨h1, h2⟩, h3⟩, h4⟩, h5⟩ := h
  refine ⟨h1, by omega, h3, fun hn => ?_, ?_⟩
  · rcases h4 with h4 | h4
    · omega
    · exact h4
  · rcases h5 with (h5 | h5) | h5
    · exact .inl h5
    · exact .inr (.inl h5)
    · exact .inr (.inr ⟨h5.1.1, h5.1.2, h5.2⟩)
theorem items_snoc (ks : KV) (k : ByteArray) (v : Ver) : items ks ++ [⟨k, v.val, v.num⟩] = items (ks ++ [(k, [v])]) := by
  rw [items, items, List.flatMap_append]
  rfl
theorem can_step {last low : Nat} {L : List It} {x : It} (hL : KVg last low L) (h : canB last low L x = true) (hf : formedV x.val = true) (hb : x.val.bits < 18446744073709551616) : KVg last low (L ++ [x]) := by
  obtain ⟨ks, rfl, hk⟩ := hL
  obtain ⟨h1, h2, h3, h4, h5⟩ := can_parts h
  have ex : x = ⟨x.key, (⟨x.num, x.val⟩ : Ver).val, (⟨x.num, x.val⟩ : Ver).num⟩ := rfl
  have hone : FitL last low [(⟨x.num, x.val⟩ : Ver)] := fit_one h2 h3 h4
  rcases List.eq_nil_or_concat ks with rfl | ⟨ks0, p, rfl⟩
  · refine ⟨[(x.key, [⟨x.num, x.val⟩])], rfl, ⟨by simp [RisesK], ?_, ?_, ?_⟩⟩
    · intro p hp; simp only [List.mem_singleton] at hp; subst hp; exact hone
    · intro p hp; simp only [List.mem_singleton] at hp; subst hp; exact h1
    · intro p hp v hv; simp only [List.mem_singleton] at hp; subst hp; simp only [List.mem_singleton] at hv; subst hv; exact ⟨hf, hb⟩
  · rw [List.concat_eq_append] at *
    have hp := hk.fit p (by simp)
    have hr := List.pairwise_append.1 hk.rises
    rcases List.eq_nil_or_concat p.2 with e | ⟨l0, u, e⟩
    · exact absurd e hp.ne
    rw [List.concat_eq_append] at e
    have hlast : lastI (items (ks0 ++ [p])) = ⟨p.1, u.val, u.num⟩ := by
      have : items (ks0 ++ [p]) = (items ks0 ++ l0.map fun v => ⟨p.1, v.val, v.num⟩) ++ [⟨p.1, u.val, u.num⟩] := by
        rw [items, items, List.flatMap_append, List.append_assoc]
        simp [itemsOf, e]
      rw [this, lastI_snoc]
    rw [hlast] at h5
    have hne : (items (ks0 ++ [p])).length ≠ 0 := by
      have h9 : 0 < p.2.length := List.length_pos_iff.2 hp.ne
      rw [items, List.flatMap_append, List.length_append]
      simp only [List.flatMap_cons, List.flatMap_nil, List.append_nil, itemsOf, List.length_map]
      omega
    rcases h5 with h5 | h5 | ⟨h5, h6, h7⟩
    · exact absurd h5 hne
    · refine ⟨ks0 ++ [p] ++ [(x.key, [⟨x.num, x.val⟩])], items_snoc _ _ ⟨x.num, x.val⟩, ⟨List.pairwise_append.2 ⟨hk.rises, by simp, fun a ha b hb => ?_⟩, fun q hq => ?_, fun q hq => ?_, fun q hq => ?_⟩⟩
      · simp only [List.mem_singleton] at hb
        subst hb
        rcases List.mem_append.1 ha with ha | ha
        · exact lessS_trans (hr.2.2 a ha p (by simp)) h5
        · simp only [List.mem_singleton] at ha
          subst ha; exact h5
      all_goals rcases List.mem_append.1 hq with hq | hq
      · exact hk.fit q hq
      · simp only [List.mem_singleton] at hq; subst hq; exact hone
      · exact hk.key q hq
      · simp only [List.mem_singleton] at hq; subst hq; exact h1
      · exact hk.val q hq
      · simp only [List.mem_singleton] at hq; subst hq
        intro v hv; simp only [List.mem_singleton] at hv; subst hv; exact ⟨hf, hb⟩
    · refine ⟨ks0 ++ [(p.1, p.2 ++ [⟨x.num, x.val⟩])], ?_, ⟨List.pairwise_append.2 ⟨hr.1, by simp, fun a ha b hb => ?_⟩, fun q hq => ?_, fun q hq => ?_, fun q hq => ?_⟩⟩
      · rw [items, items, List.flatMap_append, List.flatMap_append, List.append_assoc]
        congr 1
        simp only [List.flatMap_cons, List.flatMap_nil, List.append_nil, itemsOf, List.map_append, List.map_cons, List.map_nil]
        congr 2
        cases x
        simp only at h5 ⊢
        rw [h5]
      · simp only [List.mem_singleton] at hb
        subst hb
        exact hr.2.2 a ha p (by simp)
      all_goals rcases List.mem_append.1 hq with hq | hq
      · exact hk.fit q (List.mem_append_left _ hq)
      · simp only [List.mem_singleton] at hq; subst hq
        simp only [e]
        rw [e] at hp
        exact fit_snoc hp h2 h3 h4 h6 h7
      · exact hk.key q (List.mem_append_left _ hq)
      · simp only [List.mem_singleton] at hq; subst hq; exact hk.key p (by simp)
      · exact hk.val q (List.mem_append_left _ hq)
      · simp only [List.mem_singleton] at hq; subst hq
        intro v hv
        rcases List.mem_append.1 hv with hv | hv
        · exact hk.val p (by simp) v hv
        · simp only [List.mem_singleton] at hv; subst hv; exact ⟨hf, hb⟩
theorem rversF_ok {last low : Nat} {k : ByteArray} : ∀ (n : Nat) (s : RS) {L : List It}, KVg last low L → ∀ {r : RS × List It}, rversF last low k n s L = some r → KVg last low r.2 ∧ r.2.length * 9 + left r.1 ≤ L.length * 9 + left s
  | 0, s, L, h, r, e => by
    simp only [rversF, Option.some.injEq] at e
    subst e; exact ⟨h, Nat.le_refl _⟩
  | n + 1, none, L, h, r, e => by
    simp only [rversF, Option.some.injEq] at e
    subst e; exact ⟨h, Nat.le_refl _⟩
  | n + 1, some b, L, h, r, e => by
    rw [rversF] at e
    split at e
    · rename_i hc
      have h1 := takeN_left (some b) 8
      have h2 := takeV_left (takeN (some b) 8).2
      obtain ⟨h3, h4⟩ := rversF_ok n _ (can_step h hc (takeV_formed _) (takeV_small _).1) e
      refine ⟨h3, ?_⟩
      rw [List.length_append, List.length_singleton] at h4
      have h0 : left (some b) = b.length + 9 := rfl
      omega
    · cases e
theorem rkeysF_ok {last low : Nat} : ∀ (n : Nat) (s : RS) {L : List It}, KVg last low L → ∀ {r : RS × List It}, rkeysF last low n s L = some r → KVg last low r.2 ∧ r.2.length * 9 + left r.1 ≤ L.length * 9 + left s
  | 0, s, L, h, r, e => by
    simp only [rkeysF, Option.some.injEq] at e
    subst e; exact ⟨h, Nat.le_refl _⟩
  | n + 1, none, L, h, r, e => by
    simp only [rkeysF, Option.some.injEq] at e
    subst e; exact ⟨h, Nat.le_refl _⟩
  | n + 1, some b, L, h, r, e => by
    rw [rkeysF] at e
    split at e
    · cases e
    · rename_i q hq
      obtain ⟨h1, h2⟩ := rversF_ok _ _ h hq
      obtain ⟨h3, h4⟩ := rkeysF_ok n _ h1 e
      have h5 := takeT_left (some b) 12
      have h6 := takeN_left (takeT (some b) 12).2 4
      exact ⟨h3, by omega⟩
theorem rimpK_ok {b : List UInt8} {r : RS × List It} (h : rimpK b = some r) : KVg (impLast b) (impLow b) r.2 ∧ r.2.length * 9 ≤ b.length := by
  obtain ⟨h1, h0⟩ := rkeysF_ok _ _ (L := []) ⟨[], rfl, KVok.nil _ _⟩ h
  refine ⟨h1, ?_⟩
  have h2 := takeN_left (some b) 8
  have h3 := takeN_left (takeN (some b) 8).2 8
  have h4 := takeN_left (takeN (takeN (some b) 8).2 8).2 4
  have h5 : left (some b) = b.length + 9 := rfl
  simp only [List.length_nil] at h0
  omega
abbrev itOf (k : ByteArray) (v : Ver) : It := ⟨k, v.val, v.num⟩
theorem can_at {last low : Nat} {pre : KV} {k : ByteArray} {l1 l2 : List Ver} {v : Ver} (h : KVok last low (pre ++ [(k, l1 ++ v :: l2)])) : canB last low (items pre ++ l1.map (itOf k)) (itOf k v) = true := by
  have hf := h.fit (k, l1 ++ v :: l2) (by simp)
  have hk := h.key (k, l1 ++ v :: l2) (by simp)
  have ht := hf.top v (by simp)
  have hc := (cut_iff low _).1 hf.cut
  have hkind : v.num ≤ low → v.val.kind ≠ 0 := fun hn => by
    rcases List.eq_nil_or_concat l2 with rfl | ⟨l3, u, rfl⟩
    · exact hc.2 v (by simp) hn
    · have := hc.1 v (by
        rw [List.concat_eq_append]
        show v ∈ (l1 ++ v :: (l3 ++ [u])).dropLast
        rw [show l1 ++ v :: (l3 ++ [u]) = (l1 ++ v :: l3) ++ [u] by simp, List.dropLast_concat]
        simp)
      omega
  have hend : (items pre ++ l1.map (itOf k)).length = 0 ∨ lessS (lastI (items pre ++ l1.map (itOf k))).key k = true ∨ ((lastI (items pre ++ l1.map (itOf k))).key = k ∧ v.num < (lastI (items pre ++ l1.map (itOf k))).num ∧ low < (lastI (items pre ++ l1.map (itOf k))).num) := by
    rcases List.eq_nil_or_concat l1 with rfl | ⟨l0, u, rfl⟩
    · rcases List.eq_nil_or_concat pre with rfl | ⟨p0, p, rfl⟩
      · exact .inl rfl
      · rw [List.concat_eq_append] at *
        refine .inr (.inl ?_)
        have hp := h.fit p (by simp)
        have hr := (List.pairwise_append.1 h.rises).2.2 p (by simp) (k, [] ++ v :: l2) (by simp)
        rcases List.eq_nil_or_concat p.2 with e | ⟨l3, u, e⟩
        · exact absurd e hp.ne
        rw [List.concat_eq_append] at e
        have : items (p0 ++ [p]) ++ List.map (itOf k) [] = (items p0 ++ l3.map fun v => ⟨p.1, v.val, v.num⟩) ++ [⟨p.1, u.val, u.num⟩] := by
          rw [items, items, List.flatMap_append, List.append_assoc]
          simp [itemsOf, e]
        rw [this, lastI_snoc]
        exact hr
    · rw [List.concat_eq_append] at *
      refine .inr (.inr ?_)
      rw [List.map_append, ← List.append_assoc, show List.map (itOf k) [u] = [itOf k u] from rfl, lastI_snoc]
      refine ⟨rfl, ?_, ?_⟩
      · exact (List.pairwise_append.1 hf.falls).2.2 u (by simp) v (by simp)
      · refine hc.1 u ?_
        show u ∈ (l0 ++ [u] ++ v :: l2).dropLast
        rw [List.dropLast_append_of_ne_nil (by simp)]
        simp
  unfold canB
  simp only [Bool.and_eq_true, Bool.not_eq_true', decide_eq_true_eq, decide_eq_false_iff_not, Bool.or_eq_true, Bool.and_eq_false_iff]
  refine ⟨⟨⟨⟨hk, by omega⟩, ht.2⟩, ?_⟩, ?_⟩
  · by_cases hn : v.num ≤ low
    · exact .inr (hkind hn)
    · exact .inl hn
  · rcases hend with q | q | q
    · exact .inl (.inl q)
    · exact .inl (.inr q)
    · exact .inr ⟨⟨q.1, q.2.1⟩, q.2.2⟩
theorem rvers_put {last low : Nat} (hlast : last < 18446744073709551616) {k : ByteArray} {pre : KV} : ∀ (l2 l1 : List Ver), KVok last low (pre ++ [(k, l1 ++ l2)]) → ∀ r, rversF last low k l2.length (some (l2.flatMap encVer ++ r)) (items pre ++ l1.map (itOf k)) = some (some r, items pre ++ (l1 ++ l2).map (itOf k))
  | [], l1, _, r => by simp [rversF]
  | v :: l2, l1, h, r => by
    have hf := h.fit (k, l1 ++ v :: l2) (by simp)
    have ht := hf.top v (by simp)
    have hv := h.val (k, l1 ++ v :: l2) (by simp) v (by simp)
    have e1 := takeN_put (x := v.num) (n := 8) (by omega) (encV v.val ++ (l2.flatMap encVer ++ r))
    have e2 := takeV_put hv.2 hv.1 (l2.flatMap encVer ++ r)
    have e3 := rvers_put hlast l2 (l1 ++ [v]) (by rw [show l1 ++ [v] ++ l2 = l1 ++ v :: l2 by simp]; exact h) r
    rw [List.flatMap_cons, show encVer v ++ l2.flatMap encVer ++ r = beL v.num 8 ++ (encV v.val ++ (l2.flatMap encVer ++ r)) by simp [encVer, putV, hv.1], List.length_cons, rversF]
    simp only [e1, e2]
    rw [if_pos (can_at h)]
    rw [List.map_append, ← List.append_assoc] at e3
    rw [show ([⟨k, v.val, v.num⟩] : List It) = List.map (itOf k) [v] from rfl, e3, List.append_assoc]
    rfl
theorem rkeys_put {last low : Nat} (hlast : last < 18446744073709551616) : ∀ (m pre : KV), KVok last low (pre ++ m) → (∀ p ∈ m, p.2.length < 4294967296) → ∀ r, rkeysF last low m.length (some (m.flatMap encK ++ r)) (items pre) = some (some r, items (pre ++ m))
  | [], pre, _, _, r => by simp [rkeysF]
  | p :: m, pre, h, hn, r => by
    have hk := h.key p (by simp)
    have e1 := takeT_put (s := p.1) (most := 12) (keyB_12 hk) (by decide) (beL p.2.length 4 ++ (p.2.flatMap encVer ++ (m.flatMap encK ++ r)))
    have e2 := takeN_put (x := p.2.length) (n := 4) (hn p (by simp)) (p.2.flatMap encVer ++ (m.flatMap encK ++ r))
    have hsub : KVok last low (pre ++ [(p.1, [] ++ p.2)]) := by
      have hs : ∀ q, q ∈ pre ++ [(p.1, [] ++ p.2)] → q ∈ pre ++ p :: m := fun q hq => by
        rcases List.mem_append.1 hq with hq | hq
        · simp [hq]
        · simp only [List.nil_append, List.mem_singleton] at hq; simp [hq]
      have hr := List.pairwise_append.1 h.rises
      exact ⟨List.pairwise_append.2 ⟨hr.1, by simp, fun a ha b hb => by simp only [List.nil_append, List.mem_singleton] at hb; subst hb; exact hr.2.2 a ha p (by simp)⟩, fun q hq => h.fit q (hs q hq), fun q hq => h.key q (hs q hq), fun q hq => h.val q (hs q hq)⟩
    have e3 := rvers_put hlast p.2 [] hsub (m.flatMap encK ++ r)
    have e4 := rkeys_put hlast m (pre ++ [p]) (by rw [List.append_assoc]; exact h) (fun q hq => hn q (by simp [hq])) r
    rw [List.flatMap_cons, show encK p ++ m.flatMap encK ++ r = beL p.1.size 2 ++ p.1.data.toList ++ (beL p.2.length 4 ++ (p.2.flatMap encVer ++ (m.flatMap encK ++ r))) by simp [encK], List.length_cons, rkeysF]
    simp only [e1, e2]
    rw [List.map_nil, List.append_nil, List.nil_append] at e3
    rw [e3]
    simp only
    have e5 : items pre ++ List.map (itOf p.1) p.2 = items (pre ++ [p]) := by
      rw [items, items, List.flatMap_append]
      simp [itemsOf]
    rw [e5, e4, List.append_assoc]
    rfl
/-- What is exported is read by the reference as it was. -/
theorem rimpK_exp {S : StD} (h : StOK S) (hg : StGood S) (hI : (items S.ks).length ≤ 8000) : rimpK (expS S) = some (some [], items S.ks) ∧ impLast (expS S) = S.last ∧ impLow (expS S) = S.low := by
  have hn : S.ks.length ≤ 8000 := Nat.le_trans (items_ge h.ne) hI
  obtain ⟨e1, e2, e3⟩ := imp_heads hg (by omega)
  have hl : impLast (expS S) = S.last := by rw [impLast, e1]
  have hw : impLow (expS S) = S.low := by rw [impLow, e1]; simp only [e2]
  refine ⟨?_, hl, hw⟩
  have h9 : ∀ p ∈ S.ks, p.2.length < 4294967296 := fun p hp => by
    have h1 := getK_len S.ks p.1
    rw [getK_mem h.rises (l := p.2) hp] at h1
    omega
  have := rkeys_put hg.last S.ks [] (h.kv hg) h9 []
  unfold rimpK
  rw [hl, hw]
  simp only [e1, e2, e3]
  rw [List.append_nil] at this
  exact this
/-- A store that is good is the one that its bytes are read as. -/
theorem impS_of {S : StD} (h : StOK S) (hg : StGood S) {b : List UInt8} (e : expS S = b) (hI : (items S.ks).length ≤ 8000) : impS b = some S := by
  subst e
  exact impS_exp h hg hI
end Go.Proofs.YtboiafchmdflpaaGreatDoor
