/- The plain words of layer 7's Home: how many bounds are not above a key. -/
import Derived.Test.YtjgloipgnnigmaaGreatDoorPlaces07
import Derived.Test.YtjgloipgnnigmaaGreatDoorRisesM
namespace Go.Proofs.YtjgloipgnnigmaaGreatDoor

/-- Of the first k strings those that are not above the key. -/
def leTo (l : List ByteArray) (key : ByteArray) : Nat → Nat
  | 0 => 0
  | k + 1 => leTo l key k + if lessS key (l.getD k noStr) then 0 else 1
def homeN (c : Cfg) (key : ByteArray) : Nat := leTo c.bnds key c.bnds.length
def homeZ (c : Cfg) (key : ByteArray) : Int := if formedB c then (homeN c key : Int) else -1

theorem leTo_le (l : List ByteArray) (key : ByteArray) : ∀ k, leTo l key k ≤ k
  | 0 => Nat.le_refl _
  | k + 1 => by have := leTo_le l key k; simp only [leTo]; split <;> omega
/-- Behind a search: below p all are below the key, from p on none is. -/
theorem leTo_found {l : List ByteArray} {key : ByteArray} {n p : Nat} (h : risesTo l n = true) (hp : p ≤ n) (h1 : ∀ m, m < p → lessS (l.getD m noStr) key = true) (h2 : ∀ m, p ≤ m → m < n → lessS (l.getD m noStr) key = false) :
    ∀ k, k ≤ n → leTo l key k = min k p + if p < k ∧ l.getD p noStr = key then 1 else 0
  | 0, _ => by simp [leTo]
  | k + 1, hk => by
    have ih := leTo_found h hp h1 h2 k (by omega)
    have step : leTo l key (k + 1) = leTo l key k + (if lessS key (l.getD k noStr) = true then 0 else 1) := rfl
    rw [step, ih]
    by_cases hkp : k < p
    · have hx := lessS_asym (h1 k hkp)
      rw [if_neg (c := lessS key (l.getD k noStr) = true) (by rw [hx]; decide), if_neg (c := p < k ∧ l.getD p noStr = key) (fun q => by have := q.1; omega), if_neg (c := p < k + 1 ∧ l.getD p noStr = key) (fun q => by have := q.1; omega)]
      omega
    · have hn := h2 k (by omega) (by omega)
      by_cases e : k = p
      · subst e
        rw [if_neg (c := k < k ∧ l.getD k noStr = key) (fun q => by have := q.1; omega)]
        by_cases ek : l.getD k noStr = key
        · rw [if_neg (c := lessS key (l.getD k noStr) = true) (by rw [ek, lessS_irr]; decide), if_pos (c := k < k + 1 ∧ l.getD k noStr = key) ⟨by omega, ek⟩]; omega
        · have hx : lessS key (l.getD k noStr) = true := by
            cases hx : lessS key (l.getD k noStr)
            · exact absurd (lessS_tri hn hx) ek
            · rfl
          rw [if_pos (c := lessS key (l.getD k noStr) = true) hx, if_neg (c := k < k + 1 ∧ l.getD k noStr = key) (fun q => ek q.2)]; omega
      · have hlt := rises_mono h (i := p) (j := k) (by omega) (by omega)
        have hx : lessS key (l.getD k noStr) = true := by
          have hpn := h2 p (Nat.le_refl _) (by omega)
          cases hq : lessS key (l.getD p noStr)
          · have := lessS_tri hpn hq; rw [← this]; exact hlt
          · exact lessS_trans hq hlt
        rw [if_pos (c := lessS key (l.getD k noStr) = true) hx]
        by_cases ek : l.getD p noStr = key
        · rw [if_pos (c := p < k ∧ l.getD p noStr = key) ⟨by omega, ek⟩, if_pos (c := p < k + 1 ∧ l.getD p noStr = key) ⟨by omega, ek⟩]; omega
        · rw [if_neg (c := p < k ∧ l.getD p noStr = key) (fun q => ek q.2), if_neg (c := p < k + 1 ∧ l.getD p noStr = key) (fun q => ek q.2)]; omega
theorem leTo_mono_key {l : List ByteArray} {a b : ByteArray} (hab : lessS b a = false) : ∀ k, leTo l a k ≤ leTo l b k
  | 0 => Nat.le_refl _
  | k + 1 => by
    have ih := leTo_mono_key (l := l) hab k
    simp only [leTo]
    cases hb : lessS b (l.getD k noStr)
    · split <;> simp_all <;> omega
    · have ha : lessS a (l.getD k noStr) = true := by
        cases hq : lessS a b
        · have := lessS_tri hab hq; rw [← this]; exact hb
        · exact lessS_trans hq hb
      rw [ha]; simp; exact ih
/-- At a bound: the group that it begins. -/
theorem home_bound {c : Cfg} (h : formedB c = true) {i : Nat} (hi : i < c.bnds.length) : homeZ c (c.bnds.getD i noStr) = i + 1 := by
  have hr : risesTo c.bnds c.bnds.length = true := by
    simp only [formedB, Bool.and_eq_true] at h; exact h.2
  have := leTo_found (l := c.bnds) (key := c.bnds.getD i noStr) (p := i) hr (by omega) (fun m hm => rises_mono hr hm hi)
    (fun m hm hmn => by
      by_cases e : m = i
      · subst e; exact lessS_irr _
      · exact lessS_asym (rises_mono hr (by omega) hmn)) c.bnds.length (Nat.le_refl _)
  rw [if_pos ⟨hi, rfl⟩] at this
  simp only [homeZ, h, if_true, homeN, this]
  omega
theorem home_range {c : Cfg} (h : formedB c = true) (key : ByteArray) : 0 ≤ homeZ c key ∧ homeZ c key < c.reps.length := by
  have h1 := leTo_le c.bnds key c.bnds.length
  have h2 := (formed_len h).2.2
  simp only [homeZ, h, if_true, homeN]
  omega
theorem home_mono {c : Cfg} (h : formedB c = true) {a b : ByteArray} (hab : lessS b a = false) : homeZ c a ≤ homeZ c b := by
  have := leTo_mono_key (l := c.bnds) hab c.bnds.length
  simp only [homeZ, h, if_true, homeN]
  omega
theorem home_not {c : Cfg} (h : formedB c = false) (key : ByteArray) : homeZ c key = -1 := by simp [homeZ, h]
theorem home_yes {c : Cfg} (h : formedB c = true) (key : ByteArray) : homeZ c key = (leTo c.bnds key c.bnds.length : Nat) := by simp [homeZ, h, homeN]
/-- The empty key is of the first group. -/
theorem home_empty {c : Cfg} (h : formedB c = true) : homeZ c ⟨#[]⟩ = 0 := by
  have hr : risesTo c.bnds c.bnds.length = true := by
    simp only [formedB, Bool.and_eq_true] at h; exact h.2
  have hno : ∀ s : ByteArray, lessS s ⟨#[]⟩ = false := fun s => by
    have e : (⟨#[]⟩ : ByteArray).toList = [] := by rw [ByteArray.toList_eq]
    simp only [lessS, e]
    cases s.toList <;> rfl
  have := leTo_found (l := c.bnds) (key := ⟨#[]⟩) (p := 0) hr (by omega) (fun m hm => by omega) (fun m _ _ => hno _) c.bnds.length (Nat.le_refl _)
  have hne : ¬ (0 < c.bnds.length ∧ c.bnds.getD 0 noStr = ⟨#[]⟩) := by
    rintro ⟨h0, e⟩
    have hk := rises_key hr h0
    rw [e] at hk
    exact absurd hk (by decide)
  rw [if_neg hne] at this
  rw [home_yes h, this]
  simp
end Go.Proofs.YtjgloipgnnigmaaGreatDoor
