/- part -/
import Derived.Test.YtcldpmkhpmlcbaaGreatDoorWBeg17
import Derived.Test.YtcldpmkhpmlcbaaGreatDoorWRun17
import Derived.Test.YtcldpmkhpmlcbaaGreatDoorK4
import Derived.Test.YtcldpmkhpmlcbaaGreatDoorJ22
import Derived.Test.YtcldpmkhpmlcbaaGreatDoorJ17
import Derived.BigQuiet
set_option linter.unusedVariables false
set_option linter.unusedSimpArgs false
namespace Go.Proofs.YtcldpmkhpmlcbaaGreatDoor
open Go.RowKit Go.Shelf Go.Maps
theorem Qiy {c:Ql} {t:Tx} (hc:Qn c=true) (h:Qh t=true):0<(Qf c t).length:=by
 have hne:QJ t ++ QT t ≠ []:=by
  simp only [Qh,Bool.and_eq_true,Bool.not_eq_true',decide_eq_false_iff_not] at h
  intro e
  have e2:=congrArg List.length e
  simp only [QJ,QT,List.length_append,List.length_map,List.length_nil] at e2
  exact h.1.1.1.2 e2
 obtain ⟨a,l,e⟩:=List.exists_cons_of_ne_nil hne
 obtain ⟨h0,h1⟩:=Uo hc a
 have hr:=(X6 c (QJ t ++ QT t) c.reps.length).2 (QO c a)
 have hm:QO c a ∈ Qf c t:=by
  rw [Qf,if_pos h,Y0,if_pos hc]
  refine hr.2 ⟨(QO c a).toNat,by omega,?_,by omega⟩
  rw [e,Xv,List.any_cons]
  have:(QO c a == ((QO c a).toNat:Int))=true:=by rw [beq_iff_eq];omega
  rw [this,Bool.true_or]
 exact List.length_pos_of_mem hm
theorem Qnm {c:Ql} {t:Tx} (hc:Qn c=true) {k:Nat} (hk:k<(Qf c t).length):∃ x:Nat,(Qf c t).getD k 0=x/\x<c.reps.length/\(x:Int) ∈ Qf c t:=by
 have hm:(Qf c t).getD k 0 ∈ Qf c t:=by
  rw [List.getD_eq_getElem?_getD,List.getElem?_eq_getElem hk];exact List.getElem_mem hk
 obtain ⟨x,e,hx⟩:=V8 hc hm
 exact ⟨x,e,hx,by rw [<- e];exact hm⟩
theorem UB.dec {w0 wr wz:World} {b:Nat} {c:Ql} {all:List Tx} {W:Wd} {F:Xe} (hE:UB c all W) (hp:Xp c all) (h:Q3 w0 wr b c c.reps.length c.reps.length W F) {t:Tx} (ht:t ∈ all) {y:Bool} {s:Nat} {x:Nat} (hx:x<c.reps.length) (hd:Qe (W.m x).dc (Qd t)=some (y,s)) (hb:Below wr.heap.size wr wz) :
  Calls Tryz.prog 13 #[.pointer (some ⟨F.ps x,0,none⟩),.agg #[.int .i64 t.ses,.int .i64 t.seq]] wz fun e w'=>e = .returned (.tuple #[.bool y,.int .u64 (s:Int),.bool true])/\Below wz.heap.size wz w':=by
 obtain ⟨E,ov,os,hm⟩:=h.m x hx
 have h1:=hm.k.dk (Qd t) (by rw [hd];rfl)
 have:=Qlx (hm.m.later hb) (Ki h1)
 rw [Kc,hd] at this
 exact this
end Go.Proofs.YtcldpmkhpmlcbaaGreatDoor
