/- part -/
import Derived.Test.YtcldpmkhpmlcbaaGreatDoorJ20
set_option linter.unusedVariables false
set_option linter.unusedSimpArgs false
namespace Go.Proofs.YtcldpmkhpmlcbaaGreatDoor
def Qca (q:QD) (s:Nat):Prop:=s<=q.clock/\∀ o ∈ q.l,s<o.stamp
theorem Qez {q:QD} {i:Qp} {s:Nat} (h:Z2 q=some (i,s)):∃ o l,q.l=o :: l/\o.stamp=s/\o.id=i/\o.final=true:=by
 unfold Z2 at h
 split at h
 ·cases h
 ·rename_i o l e
  split at h
  ·rename_i hf
   cases h
   exact ⟨o,l,e,rfl,rfl,hf⟩
  ·cases h
structure SOK (m:Qk):Prop where
 so:m.a.Pairwise (· <= ·)
 top:∀ s ∈ m.a,s<=m.q.clock/\∀ o ∈ m.q.l,s<=o.stamp
def Qpk (a:List Nat) (s:Nat):Nat:=(a.takeWhile fun x=>decide (x<=s)).length-1
def QeA (m:Qk) (k:ByteArray) (s:Nat):Option JQ:=if s<m.a.headD 0 then none else some (KN m.s k (m.s.low+Qpk m.a s)).val
structure Qar (m m':Qk) (s:Nat):Prop where
 safe:Qca m.q s->Qca m'.q s
 view:Qca m.q s->∀ k,QeA m' k s=none \/ QeA m' k s=QeA m k s
theorem Qar.refl (m:Qk) (s:Nat):Qar m m s:=⟨id,fun _ _=>.inr rfl⟩
theorem Qar.trans {a b d:Qk} {s:Nat} (h:Qar a b s) (h':Qar b d s):Qar a d s :=
 ⟨fun e=>h'.safe (h.safe e),fun e k=>by
  rcases h'.view (h.safe e) k with e1 | e1
  ·exact .inl e1
  ·rcases h.view e k with e2 | e2
   ·exact .inl (e1.trans e2)
   ·exact .inr (e1.trans e2)⟩
theorem Qar.same {m m':Qk} {s:Nat} (hq:Qca m.q s->Qca m'.q s) (ha:m'.a=m.a) (hs:m'.s=m.s):Qar m m' s :=
 ⟨hq,fun _ k=>.inr (by rw [QeA,QeA,ha,hs])⟩
section
variable {c:Ql} {g:Int} {n:Nat} {m:Qk}
end
end Go.Proofs.YtcldpmkhpmlcbaaGreatDoor
