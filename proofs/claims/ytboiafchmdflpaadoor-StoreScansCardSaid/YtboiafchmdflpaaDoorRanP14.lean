/- A store into the map that is ranged over, at a key that is there. -/
import Derived.Test.YtboiafchmdflpaaDoorMap14
namespace Go.Proofs.YtboiafchmdflpaaDoor
open Go.RowKit Go.Maps
open Go.ChangeMaps Go.MapKept Go.WideShapes
open Go.WideElems (Fit rd rg pl rd_key rd_val rg_of other_key rd_mk)

theorem grownB {w w' : World} (h : Below w.heap.size w w') (row : Option Nat) : w.grownBy w' row := ⟨h.os, h.tape, h.output, h.size, fun i hi _ => h.block i hi⟩
section
variable {H : Type} {P : Program} {k : TypeId} {R : Value → Option (DataW H × List MemPlace)} {w : World} {b r n : Nat} {D : DataW H} {left : Lit → Bool} {cnt : Nat}
theorem has_fit {es : Array MapEntry} {clock : Nat} (K : Keyed P k) (F : Fit P k R es clock) {key : Value} {kl : Lit} (hkey : keyOf P k key = some kl) (hin : Maps.has (DataW.map ((es.toList.map (rg P k R)).foldr DataW.insert [])) kl = true) : ∃ x ∈ es.toList, x.key = key := by
  obtain ⟨p, hp, hs⟩ := List.any_eq_true.1 hin
  obtain ⟨x, hx, rfl⟩ := List.mem_map.1 (mem_sorted.1 hp)
  refine ⟨x, hx, ?_⟩
  obtain ⟨y, hy⟩ := F.reads x hx
  have e := WideAt.sameKey_eq hs
  rw [rg_of hy] at e
  exact K.inj (e ▸ rd_key hy) hkey
theorem setBlock_inj {w : World} {b : Nat} {es0 es es' : Array MapEntry} {c0 c c' : Nat} (hb : w.heap[b]? = some (.map es0 c0)) (h : setBlock w b (.map es c) = setBlock w b (.map es' c')) : es = es' ∧ c = c' := by
  have h1 := heap_setBlock_same hb (.map es c)
  have h2 := heap_setBlock_same hb (.map es' c')
  rw [h, h2] at h1
  injection h1 with h1
  injection h1 with h1 h3
  exact ⟨h1.symm, h3.symm⟩
theorem ranges_put {t e : TypeId} (h : w.ranges P k R b r n D left cnt) (K : Keyed P k) (ht : P.underlying t = some (.map k e)) (hn : n < maxLen) {key val : Value} {kl : Lit} {d : DataW H} {ps : List MemPlace}
    (hkey : keyOf P k key = some kl) (hv : R val = some (d, ps)) (hin : Maps.has D kl = true) :
    ∃ w', (Instr.mapUpdate t (.map (some b)) key val).run P w = .ok () w' ∧ w'.ranges P k R b r n (D.put kl d) left cnt ∧ w.mapTurned w' b := by
  have hne := h.ne
  obtain ⟨es, clock, since, seen, c0, hb, F, hs, rfl, hr, hold, rfl, hl1, hl2, hsc, hsk⟩ := h
  obtain ⟨es', clock', hrun, F', hput, _⟩ := Maps.fit_store (R' := R) K ht hb F (Nat.lt_of_le_of_lt hs hn) (fun _ _ _ _ hz => hz) hkey hv
  obtain ⟨x0, hx0, hk0⟩ := has_fit K F hkey hin
  rcases K.find w hkey es.toList F.keys with ⟨_, h2⟩ | ⟨j, e0, h1, h2, h3⟩
  · exact absurd hk0 (h2 x0 hx0)
  · have hj : es[j]? = some e0 := by simpa using h2
    have hrun2 : (Instr.mapUpdate t (.map (some b)) key val).run P w = .ok () (setBlock w b (.map (es.modify j (fun e' => { e' with key := key, val := val })) clock)) := by
      simp [Instr.mapUpdate, run_underlying ht, MapKept.run_getObj_map hb, K.check w false hkey, h1, hj, h3, K.stays w hkey, MapKept.run_setObj_map _ hb, Result.andThen, setBlock]
    rw [hrun] at hrun2
    injection hrun2 with _ hrun3
    obtain ⟨rfl, rfl⟩ := setBlock_inj hb hrun3
    have hlist : (es.modify j (fun e' => { e' with key := key, val := val })).toList = es.toList.set j { e0 with key := key, val := val } := by rw [Array.toList_modify, modify_eq_set _ _ _ _ h2]
    have hjl : j < es.toList.length := (List.getElem?_eq_some_iff.1 h2).1
    have hm0 : e0 ∈ es.toList := List.mem_of_getElem? h2
    have who : ∀ x ∈ es.toList.set j { e0 with key := key, val := val }, x = { e0 with key := key, val := val } ∨ x ∈ es.toList := by
      intro x hx
      rcases List.mem_or_eq_of_mem_set hx with h | h
      · exact .inr h
      · exact .inl h
    have hrg0 : (rg P k R e0).1 = kl := by
      obtain ⟨y, hy⟩ := F.reads e0 hm0
      have m1 := rd_key hy
      rw [h3, hkey] at m1
      rw [rg_of hy, ← Option.some.inj m1]
    have hrgn : (rg P k R { e0 with key := key, val := val }).1 = kl := by rw [rg_of (rd_mk hkey hv)]
    refine ⟨_, hrun, ⟨_, _, since, seen, c0, heap_setBlock_same hb _, F', by simpa using hs, by rw [DataW.put_eq, hput], (heap_setBlock_other hb _ hne).trans hr, fun x hx => ?_, ?_, fun x hx => ?_, fun x0 hx0 => ?_, hsc, hsk⟩, ⟨es, _, _, _, hb, rfl⟩⟩
    · rw [hlist] at hx
      rcases who x hx with rfl | hx
      · exact hold e0 hm0
      · exact hold x hx
    · have hsz : ∀ a : Array MapEntry, (leftOf a seen).size = (a.toList.filter fun e => !seen.contains e.born).length := fun a => by
        unfold leftOf
        rw [← Array.toList_filter, Array.length_toList]
      rw [hsz, hsz, hlist, ← List.countP_eq_length_filter, ← List.countP_eq_length_filter]
      have e1 : es.toList = es.toList.set j e0 := by
        have hx : es.toList[j] = e0 := by rw [List.getElem?_eq_getElem hjl] at h2; injection h2
        rw [← hx]
        exact (List.set_getElem_self hjl).symm
      conv => rhs; rw [e1]
      have hcp : ∀ y : MapEntry, (es.toList.set j y).countP (fun e => !seen.contains e.born) = (es.toList.eraseIdx j).countP (fun e => !seen.contains e.born) + (if (!seen.contains y.born) = true then 1 else 0) := fun y => by
        rw [(set_perm es.toList j (by simpa using hjl) y).countP_eq, List.countP_cons]
      rw [hcp, hcp]
    · rw [hlist] at hx
      rcases who x hx with rfl | hx
      · rw [hrgn, ← hrg0]
        exact hl1 e0 hm0
      · exact hl1 x hx
    · obtain ⟨x, hx, rfl⟩ := hl2 x0 hx0
      rw [hlist]
      by_cases e : x.key = key
      · refine ⟨{ e0 with key := key, val := val }, List.mem_iff_getElem.2 ⟨j, by simpa using hjl, by simp⟩, ?_⟩
        rw [hrgn]
        obtain ⟨y, hy⟩ := F.reads x hx
        have m1 := rd_key hy
        rw [e, hkey] at m1
        rw [rg_of hy, ← Option.some.inj m1]
      · refine ⟨x, ?_, rfl⟩
        obtain ⟨i, hi, rfl⟩ := List.getElem_of_mem hx
        have hij : i ≠ j := fun e1 => by
          subst e1
          rw [List.getElem?_eq_getElem hi] at h2
          injection h2 with h2
          exact e (by rw [h2]; exact h3)
        exact List.mem_iff_getElem.2 ⟨i, by simpa using hi, by rw [List.getElem_set_ne (Ne.symm hij)]⟩
end
end Go.Proofs.YtboiafchmdflpaaDoor
