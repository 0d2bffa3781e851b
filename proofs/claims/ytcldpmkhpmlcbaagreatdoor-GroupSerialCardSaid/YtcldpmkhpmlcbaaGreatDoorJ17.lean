/- part -/
import Derived.Test.YtcldpmkhpmlcbaaGreatDoorJ15
import Derived.Laws.Rows
import Derived.Laws.Tables
import Derived.BigFrame
import Derived.Test.YtcldpmkhpmlcbaaGreatDoorJ10
import Derived.Test.YtcldpmkhpmlcbaaGreatDoorJ6
import Derived.Test.YtcldpmkhpmlcbaaGreatDoorJ16
import Derived.BigQuiet
import Derived.Deep.RegionHeld3
set_option linter.unusedVariables false
set_option linter.unusedSimpArgs false
namespace Go.Proofs.YtcldpmkhpmlcbaaGreatDoor
open Go.RowKit
section
variable {P:Program}
end
section
variable {P:Program}
end
theorem Uy (w:World) (cs:Array Value) (t:TypeId):∃ W:World,w.alloc (.cells cs t)=W/\Below w.heap.size w W/\W.heap.size=w.heap.size+1/\W.heap[w.heap.size]? = some (.cells cs t (0,0)) :=
 ⟨_,rfl,Qc _ _,by simp,heap_alloc_new w _⟩
theorem Xw {w w':World} {g:Nat} {o:Obj} (h:w.heap[g]? = some o) (hb:Below w.heap.size w w'):w'.heap[g]? = some o:=by
 rw [hb.block g (Array.getElem?_eq_some_iff.1 h).1];exact h
open Go.Shelf
def J5 (g:Int):Bool:=decide (0<=g) && decide (g<4)
theorem Qhv (g:Int) (w:World):Calls Tryz.prog 83 #[.int .i64 g] w fun e w'=>e = .returned (.bool (J5 g))/\Below w.heap.size w w':=by
 unfold J5
 cases h0:decide ((0:Int)<=g)
 ·go_enter Tryz.func83,Tryz.ntmps83
  go_wp2
  go_ret
  exact ⟨Qm (by simp [*]),Below.refl _ _⟩
 ·cases h1:decide (g<4)
  all_goals
   go_enter Tryz.func83,Tryz.ntmps83
   go_wp2
   go_ret
   exact ⟨Qm (by simp [*]),Below.refl _ _⟩
structure Q2 where
 k:Int
 t:Tx
 A:Option Addr
 B:Option Addr
 ca:Nat
 cb:Nat
 is:Int
 iq:Int
 g:Int
 st:Nat
 y:Bool
def Q2.vs (x:Q2):Array Value:=#[.int .i64 x.k,.int .i64 x.t.ses,.int .i64 x.t.seq,.slice x.A x.t.rds.length x.ca,.slice x.B x.t.wrs.length x.cb,.int .i64 x.is,.int .i64 x.iq,.int .i64 x.g,.int .u64 (x.st:Int),.bool x.y]
theorem V5 {w:World} {g:Nat} {x:Q2} {t:TypeId} (h:w.heap[g]? = some (.cells x.vs t (0,0))) :
  w.cell? ⟨g,0,none⟩=some (.int .i64 x.k)/\w.cell? ⟨g,1,none⟩=some (.int .i64 x.t.ses)/\w.cell? ⟨g,2,none⟩=some (.int .i64 x.t.seq)/\w.cell? ⟨g,3,none⟩=some (.slice x.A x.t.rds.length x.ca)/\w.cell? ⟨g,4,none⟩=some (.slice x.B x.t.wrs.length x.cb) /\
  w.cell? ⟨g,5,none⟩=some (.int .i64 x.is)/\w.cell? ⟨g,6,none⟩=some (.int .i64 x.iq)/\w.cell? ⟨g,7,none⟩=some (.int .i64 x.g)/\w.cell? ⟨g,8,none⟩=some (.int .u64 (x.st:Int))/\w.cell? ⟨g,9,none⟩=some (.bool x.y):=by
 refine ⟨?_,?_,?_,?_,?_,?_,?_,?_,?_,?_⟩ <;> (rw [cell_of_row w g _ _ _ _ h];rfl)
def XP (a b:Q2):Bool:=a.k == b.k && Us a.is a.iq b.is b.iq && a.g == b.g && (a.st:Int) == (b.st:Int) && a.y == b.y && Ut a.t b.t
set_option maxRecDepth 100000 in
set_option maxHeartbeats 4000000 in
theorem VR (a b:Q2) (w:World) (ha:QY w a.t a.A a.B) (hb:QY w b.t b.A b.B):Calls Tryz.prog 80 #[.agg a.vs,.agg b.vs] w fun e w'=>e = .returned (.bool (XP a b))/\Below w.heap.size w w':=by
 obtain ⟨W0,eW0,HB0,hsz0,hr0⟩:=Uy w a.vs 41
 obtain ⟨W,eW,HBa,hszA,hrA⟩:=Uy W0 b.vs 41
 have HB:=Qa HB0 HBa
 clear hsz0 hszA
 obtain ⟨c0,c1,c2,c3,c4,c5,c6,c7,c8,c9⟩:=V5 (Xw hr0 HBa)
 obtain ⟨d0,d1,d2,d3,d4,d5,d6,d7,d8,d9⟩:=V5 hrA
 obtain ⟨bT,hbT⟩:∃ r,Ut a.t b.t=r:=⟨_,rfl⟩
 have HS:Hid (Calls Tryz.prog 134 #[.agg #[.int .i64 a.t.ses,.int .i64 a.t.seq,.slice a.A a.t.rds.length a.ca,.slice a.B a.t.wrs.length a.cb],.agg #[.int .i64 b.t.ses,.int .i64 b.t.seq,.slice b.A b.t.rds.length b.ca,.slice b.B b.t.wrs.length b.cb]] W fun e w'=>e = .returned (.bool bT)/\Below W.heap.size W w'):=by
  have:=QjB a.t b.t a.A a.B b.A b.B a.ca a.cb b.ca b.cb W (ha.later HB) (hb.later HB)
  rw [hbT] at this
  exact this
 obtain ⟨bI,hbI⟩:∃ r,Us a.is a.iq b.is b.iq=r:=⟨_,rfl⟩
 have hI:=Qnt a.is a.iq b.is b.iq
 rw [hbI] at hI
 have HE:Hid (XP a b=(a.k == b.k && bI && a.g == b.g && (a.st:Int) == (b.st:Int) && a.y == b.y && bT)):=by show _=_;rw [XP,hbI,hbT]
 rw [HE.out]
 clear hr0 hrA ha hb hbI hbT HE
 cases bI
 all_goals
  go_enter Tryz.func80,Tryz.ntmps80
  go_wp2_with (go_at_call 134;refine HS.out.mono ?_;rintro e w1 ⟨rfl,hb⟩)
  all_goals
   go_ret
   first
    | exact ⟨Qm (by simp [*]),HB⟩
    | exact ⟨Qm (by simp [*]),Qa HB hb⟩
def Kh:Q2:=⟨0,⟨0,0,[],[]⟩,none,none,0,0,0,0,0,0,false⟩
theorem QaF (w:World):QY w ⟨0,0,[],[]⟩ none none :=
 ⟨fun _ hi=>absurd hi (Nat.not_lt_zero _),fun _ hi=>absurd hi (Nat.not_lt_zero _),fun _ hi=>absurd hi (Nat.not_lt_zero _),fun _ hi=>absurd hi (Nat.not_lt_zero _),fun _ hi=>absurd hi (Nat.not_lt_zero _),Nat.zero_le _,Nat.zero_le _⟩
open Go.Maps
theorem QjT (w:World):(zeroValue 112).run Tryz.prog w = .ok (.agg #[.bool false,.int .u64 0]) w:=by kernel_rfl
theorem QjU (w:World):(zeroValue 138).run Tryz.prog w = .ok (.pointer none) w:=by kernel_rfl
theorem Qm1 (w:World):(zeroValue 39).run Tryz.prog w = .ok (.int .u64 0) w:=by kernel_rfl
theorem Qm2 (w:World):(zeroValue 4).run Tryz.prog w = .ok (.bool false) w:=by kernel_rfl
section
variable {w:World} {B p:Nat} {c:Ql} {g:Int} {lab:Nat->QL} {x:Qk} {E:Q9} {ov:Value}
theorem Qo.lookD (h:Qo w B p c g lab x E ov) {i:Qp} (hi:Y6 i) {wz:World} (hb:Below w.heap.size w wz) :
  (Instr.lookup 103 (.map (some E.md)) (.agg #[.int .i64 i.ses,.int .i64 i.seq]) true).run Tryz.prog wz = .ok (.tuple #[Qe8 (Kc x i),.bool (Qe x.dc i).isSome]) wz:=by
 have:=Za.look_ok VX (h.hd.later hb) Tryz.underlying103 (QjT wz) i hi
 rw [h.kd] at this
 refine Eq.trans this ?_
 rw [Kc]
 cases Qe x.dc i <;> rfl
theorem Qo.lookW (h:Qo w B p c g lab x E ov) {i:Qp} (hi:Y6 i) {wz:World} (hb:Below w.heap.size w wz) :
  (Instr.lookup 102 (.map (some E.mw)) (.agg #[.int .i64 i.ses,.int .i64 i.seq]) false).run Tryz.prog wz = .ok (if (Qe x.wt i).isSome then .pointer (some ⟨E.pp i,0,none⟩) else .pointer none) wz:=by
 have:=Za.look VX (h.hw.later hb) Tryz.underlying102 (QjU wz) i hi
 rw [h.kw] at this
 refine Eq.trans this ?_
 cases Qe x.wt i <;> rfl
theorem Qo.lookS (h:Qo w B p c g lab x E ov) {i:ZO} (hi:Y7 i) {wz:World} (hb:Below w.heap.size w wz) :
  (Instr.lookup 104 (.map (some E.ms)) (.agg #[.int .i64 i.1.ses,.int .i64 i.1.seq,.int .i64 i.2]) true).run Tryz.prog wz = .ok (.tuple #[.int .u64 (((Qe x.st i).getD 0:Nat):Int),.bool (Qe x.st i).isSome]) wz:=by
 have:=Za.look_ok Jz (h.hs.later hb) Tryz.underlying104 (Qm1 wz) i hi
 rw [h.ks] at this
 refine Eq.trans this ?_
 cases Qe x.st i <;> rfl
theorem Qo.lookV (h:Qo w B p c g lab x E ov) {i:ZO} (hi:Y7 i) {wz:World} (hb:Below w.heap.size w wz) :
  (Instr.lookup 105 (.map (some E.mv)) (.agg #[.int .i64 i.1.ses,.int .i64 i.1.seq,.int .i64 i.2]) true).run Tryz.prog wz = .ok (.tuple #[.bool ((Qe x.vo i).getD false),.bool (Qe x.vo i).isSome]) wz:=by
 have:=Za.look_ok Jz (h.hv.later hb) Tryz.underlying105 (Qm2 wz) i hi
 rw [h.kv] at this
 refine Eq.trans this ?_
 cases Qe x.vo i <;> rfl
end
theorem Ki {s q:Int} (h:idB s q=true):Y6 ⟨s,q⟩:=by
 simp only [idB,Bool.and_eq_true,decide_eq_true_eq] at h
 unfold Y6 Ui
 simp only
 omega
set_option maxRecDepth 100000 in
set_option maxHeartbeats 4000000 in
theorem QiV {w:World} {B p n:Nat} {c:Ql} {g:Int} {lab:Nat->QL} {x:Qk} {E:Q9} {ov:Value} {os:List Qv} (h:ZW w B p c g n lab x E ov os) (a:Q2) (hk:a.k=2 \/ a.k=3) (hid:idB a.is a.iq=true) (hg:0<=a.g/\a.g<4) (hst:a.st<9223372036854775808) (hn:n<=2000) :
  Calls Tryz.prog 42 #[.pointer (some ⟨p,0,none⟩),.agg a.vs] w fun e w'=>e = .returned (.tuple #[])/\Qao w w' B p c g (n+1) lab (Zm g x a.k ⟨a.is,a.iq⟩ a.g a.st a.y) os:=by
 obtain ⟨W,eW,HB,hszW,hr0⟩:=Uy w a.vs 41
 have HG:=Lib.hid (h.later HB)
 have hok:=Ki hid
 obtain ⟨b0,b1,b2,b3,b4,b5,b6,b7,b8,b9⟩:=V5 hr0
 obtain ⟨c0,c1,c2,c3,c4,c5,c6,c7,c8,c9,c10,c11⟩:=HG.out.m.cs
 have hlt0:Hid (∀ k,lab k ≠ .no->k<w.heap.size):=h.lt
 clear h
 obtain ⟨dB,hdB⟩:∃ b,(Qe x.dc ⟨a.is,a.iq⟩).isSome=b:=⟨_,rfl⟩
 obtain ⟨wB,hwB⟩:∃ b,(Qe x.wt ⟨a.is,a.iq⟩).isSome=b:=⟨_,rfl⟩
 obtain ⟨dd,hdd⟩:∃ d,Kc x ⟨a.is,a.iq⟩=d:=⟨_,rfl⟩
 obtain ⟨ptr,hptr⟩:∃ v,(if wB=true then Value.pointer (some ⟨E.pp ⟨a.is,a.iq⟩,0,none⟩) else .pointer none)=v:=⟨_,rfl⟩
 have LD:Hid (∀ wz,Below W.heap.size W wz->(Instr.lookup 103 (.map (some E.md)) (.agg #[.int .i64 a.is,.int .i64 a.iq]) true).run Tryz.prog wz = .ok (.tuple #[.agg #[.bool dd.1,.int .u64 (dd.2:Int)],.bool dB]) wz):=fun wz hb=>by
  have:=HG.out.m.lookD hok hb
  rw [hdB,hdd] at this
  exact this
 have LW:Hid (∀ wz,Below W.heap.size W wz->(Instr.lookup 102 (.map (some E.mw)) (.agg #[.int .i64 a.is,.int .i64 a.iq]) false).run Tryz.prog wz = .ok ptr wz):=fun wz hb=>by
  have:=HG.out.m.lookW hok hb
  rw [hwB,hptr] at this
  exact this
 go_enter Tryz.func42,Tryz.ntmps42
 go_wp2
 obtain ⟨w1,hw1⟩:∃ w1,W.alloc (.cells #[.int .i64 a.is,.int .i64 a.iq,.int .i64 a.g] 179)=w1:=⟨_,rfl⟩
 have hb1:Below W.heap.size W w1:=by rw [<- hw1];exact Qc _ _
 have hk1:w1.heap[w.heap.size+1]? = some (.cells #[.int .i64 a.is,.int .i64 a.iq,.int .i64 a.g] 179 (0,0)):=by rw [<- hw1, <- hszW];exact heap_alloc_new W _
 rw [hw1]
 clear hw1 eW
 have S1:Hid (∀ wz,Below w1.heap.size w1 wz->wz.cell? ⟨p,6,none⟩=some (.map (some E.md))/\wz.cell? ⟨w.heap.size,5,none⟩=some (.int .i64 a.is)/\wz.cell? ⟨w.heap.size,6,none⟩=some (.int .i64 a.iq)):=fun wz hb=>⟨keep (Qa hb1 hb) c6,keep (Qa hb1 hb) b5,keep (Qa hb1 hb) b6⟩
 have l1:=LD.out w1.drew (Qa hb1 (Qb (Below.refl _ _)))
 have l2:=LD.out _ (Qa hb1 (Qb (Qc w1 (.cells #[.bool false,.int .u64 0] 112))))
 go_cut [5,6] (fun s t wx=>s = .pointer (some ⟨w1.heap.size,0,none⟩)/\t = .bool dB/\Below w1.heap.size w1 wx)
 case first =>
  go_region_held3 (fun w'=>w'.cell? ⟨p,6,none⟩=some (.map (some E.md))/\w'.cell? ⟨w.heap.size,5,none⟩=some (.int .i64 a.is)/\w'.cell? ⟨w.heap.size,6,none⟩=some (.int .i64 a.iq))
   (first | exact S1.out _ (Qb (Below.refl _ _)) | exact S1.out _ (Qb (Qc _ _)))
   (fail)
  all_goals
   go_wp2
   go_meet
   exact ⟨rfl,rfl,Qb (Qc _ _)⟩
 case rest =>
  obtain ⟨rfl,rfl,hbc⟩:=hcut
  obtain ⟨w2,rfl⟩:∃ wq:World,wq=wc:=⟨_,rfl⟩
  have hb2:Below W.heap.size W w2:=Qa hb1 hbc
  have e5:=keep hb2 c5
  have f5:=keep hb2 b5
  have f6:=keep hb2 b6
  have lw:∀ nq,(Instr.lookup 102 (.map (some E.mw)) (.agg #[.int .i64 a.is,.int .i64 a.iq]) false).run Tryz.prog (w2.drewN nq) = .ok ptr (w2.drewN nq):=fun nq=>LW.out _ (Qj hb2 _)
  clear l1 l2
  go_wp2
  go_quiet (fail)
  go_wp2
  obtain ⟨w3,hw3⟩:∃ w3,w2.drewN nq=w3:=⟨_,rfl⟩
  have hb3:Below W.heap.size W w3:=by rw [<- hw3];exact Qj hb2 _
  have hk3:w3.heap[w.heap.size+1]? = some (.cells #[.int .i64 a.is,.int .i64 a.iq,.int .i64 a.g] 179 (0,0)):=by rw [<- hw3];exact Xw (Xw hk1 hbc) (Qj (Below.refl _ _) _)
  rw [hw3]
  clear hw3 lw e5 f5 f6 hb2 hbc hk1
  have hsame:Hid (∀ wz,Below W.heap.size W wz->Zm g x a.k ⟨a.is,a.iq⟩ a.g a.st a.y=x->Qao w wz B p c g (n+1) lab (Zm g x a.k ⟨a.is,a.iq⟩ a.g a.st a.y) os):=fun wz hb e=>by
   rw [e]
   exact ⟨lab,E,ov,(HG.out.later hb).more (Nat.le_succ _),QE.below (Qa HB hb)⟩
  have d2:=keep hb3 c2
  have f7:=keep hb3 b7
  cases dB
  case true =>
   have HE:Hid (Zm g x a.k ⟨a.is,a.iq⟩ a.g a.st a.y=x):=by show _=_;rw [Zm,hdB];rfl
   go_quiet (fail)
   go_wp2
   go_end0
   exact ⟨rfl,hsame.out _ (Qj hb3 _) HE.out⟩
  by_cases hgg:a.g=g
  ·have HE:Hid (Zm g x a.k ⟨a.is,a.iq⟩ a.g a.st a.y=x):=by show _=_;rw [Zm,hdB,hgg];simp
   have q1:(a.g == g)=true:=by simp [hgg]
   clear hgg
   go_quiet (fail)
   go_wp2
   go_end0
   exact ⟨rfl,hsame.out _ (Qj hb3 _) HE.out⟩
  have q1:(a.g == g)=false:=by simp [hgg]
  have HH:Hid (Zm g x a.k ⟨a.is,a.iq⟩ a.g a.st a.y=if wB then
    if a.k=2 then { x with q:=QZ x.q ⟨a.is,a.iq⟩ a.g a.st } else { x with wt:=Qs x.wt ⟨a.is,a.iq⟩ { ZD x ⟨a.is,a.iq⟩ with vs:=ZS (ZD x ⟨a.is,a.iq⟩).gs (ZD x ⟨a.is,a.iq⟩).vs a.g a.y } }
   else if a.k=2 then (if (Qe x.st (⟨a.is,a.iq⟩,a.g)).isSome then x else { x with st:=Qs x.st (⟨a.is,a.iq⟩,a.g) a.st })
   else (if (Qe x.vo (⟨a.is,a.iq⟩,a.g)).isSome then x else { x with vo:=Qs x.vo (⟨a.is,a.iq⟩,a.g) a.y })):=by
   show _=_
   rw [Zm,hdB,hwB,decide_eq_false hgg]
   rfl
  clear hgg
  have f0:=keep hb3 b0
  have hstep:Hid (∀ wz,Below W.heap.size W wz->QE w wz lab lab):=fun wz hb=>QE.below (Qa HB hb)
  have hns:Hid (E.ns<maxLen/\E.nv<maxLen):=by
   have h1:=HG.out.cn.ns
   have h2:=HG.out.cn.nv
   show _/\_
   unfold maxLen
   omega
  have hn900:Hid (x.q.l.length<900000):=by
   have:=HG.out.k.cnt
   show _<_
   omega
  cases wB
  case true =>
   simp only [if_true] at hptr
   subst hptr
   obtain ⟨v,hv⟩:=Option.isSome_iff_exists.1 hwB
   have hwo:ZD x ⟨a.is,a.iq⟩=v:=by rw [ZD,hv];rfl
   have hWOK:=Lib.hid (HG.out.k.w _ v hv)
   replace hv:=Lib.hid hv
   by_cases hk2:a.k=2
   ·have q2:(a.k == 2)=true:=by simp [hk2]
    have HE:Hid (Zm g x a.k ⟨a.is,a.iq⟩ a.g a.st a.y = { x with q:=QZ x.q ⟨a.is,a.iq⟩ a.g a.st }):=by show _=_;rw [HH.out,if_pos rfl,if_pos hk2]
    clear hk2 hk
    go_quiet (fail)
    go_wp2
    obtain ⟨w4,hw4⟩:∃ w4,w3.drewN nq=w4:=⟨_,rfl⟩
    have hb4:Below W.heap.size W w4:=by rw [<- hw4];exact Qj hb3 _
    rw [hw4]
    clear hw4
    have hb4':=Qa hb4 (Qb (Below.refl w4.heap.size w4))
    have hG4:=Lib.hid (HG.out.later hb4')
    have hL:Hid (Calls Tryz.prog 89 #[.pointer (some ⟨E.qp,0,none⟩),.agg #[.int .i64 a.is,.int .i64 a.iq],.int .i64 a.g,.int .u64 (a.st:Int)] w4.drew (VQ w4.drew E.qB E.qp (QZ x.q ⟨a.is,a.iq⟩ a.g a.st) (fun k=>lab k = .q) (.int .i64 (YL x.q ⟨a.is,a.iq⟩ a.g a.st)))) :=
     QiN hG4.out.m.q HG.out.k.q (i:=⟨a.is,a.iq⟩) (by omega) (by omega) (by omega) hn900.out
    have d3:=keep hb4' c3
    have f5:=keep hb4' b5
    have f6:=keep hb4' b6
    have g7:=keep hb4' b7
    have f8:=keep hb4' b8
    have hbx:∀ k,lab k = .q->k ≠ p/\k ≠ w.heap.size:=fun k e=>⟨fun z=>(by rw [z,HG.out.m.lm] at e;cases e),fun z=>(by have:=hlt0.out k (by rw [e];decide);omega)⟩
    go_region_held3 (fun w'=>w'.cell? ⟨p,3,none⟩=some (.pointer (some ⟨E.qp,0,none⟩))/\w'.cell? ⟨w.heap.size,5,none⟩=some (.int .i64 a.is)/\w'.cell? ⟨w.heap.size,6,none⟩=some (.int .i64 a.iq)/\w'.cell? ⟨w.heap.size,7,none⟩=some (.int .i64 a.g)/\w'.cell? ⟨w.heap.size,8,none⟩=some (.int .u64 (a.st:Int)))
     (first | exact ⟨d3,f5,f6,g7,f8⟩ | exact ⟨ho5.cell d3 (fun e=>(hbx _ e).1 rfl),ho5.cell f5 (fun e=>(hbx _ e).2 rfl),ho5.cell f6 (fun e=>(hbx _ e).2 rfl),ho5.cell g7 (fun e=>(hbx _ e).2 rfl),ho5.cell f8 (fun e=>(hbx _ e).2 rfl)⟩)
     ((go_at_call 89;(with_reducible refine hL.out.mono ?_);rintro e w5 ⟨rfl,hq5,ho5⟩))
    all_goals
     go_wp2
     go_end0
     refine ⟨rfl,?_⟩
     rw [HE.out]
     refine ⟨relab lab w4.drew w5 .q,E,ov,{ m:=hG4.out.m.setQ ho5 hq5,o:=hG4.out.o.rest ho5 (fun k e=>e) hG4.out.lt (by decide),k:=(HG.out.k.setQ _ _ _).more (Nat.le_succ _),cn:=?_,tb:=hG4.out.tb.out ho5 (fun k e=>hG4.out.lb k (by rw [e];decide)) },(hstep.out _ hb4').trans (QE.relab ho5 (fun k e=>e) (by decide))⟩
     have hc:=(HG.out.more (Nat.le_succ n)).cn
     exact { hc with nd:=by show _+(QZ _ _ _ _).l.length<=_;rw [(Qal _ _ _ _).2.1];exact hc.nd }
   ·have q2:(a.k == 2)=false:=by simp [hk2]
    have HE:Hid (Zm g x a.k ⟨a.is,a.iq⟩ a.g a.st a.y = { x with wt:=Qs x.wt ⟨a.is,a.iq⟩ { v with vs:=ZS v.gs v.vs a.g a.y } }):=by show _=_;rw [HH.out,if_pos rfl,if_neg hk2,hwo]
    clear hk2 hk
    go_quiet (fail)
    go_wp2
    obtain ⟨w4,hw4⟩:∃ w4,w3.drewN nq=w4:=⟨_,rfl⟩
    have hb4:Below W.heap.size W w4:=by rw [<- hw4];exact Qj hb3 _
    rw [hw4]
    clear hw4
    have hb4':=Qa hb4 (Qb (Below.refl w4.heap.size w4))
    have hG4:=Lib.hid (HG.out.later hb4')
    obtain ⟨A1,A2,Ag,a1,a2,ag,tp,tg,tb,tc,hI⟩:=hG4.out.m.wt _ v hv.out
    have d5:w4.drew.cell? ⟨E.pp ⟨a.is,a.iq⟩,5,none⟩=some (.pointer (some ⟨tp,0,none⟩)):=by rw [cell_of_row w4.drew _ _ _ _ _ hI.blk];rfl
    have f7:=keep hb4' b7
    have f9:=keep hb4' b9
    have hL:Hid (Calls Tryz.prog 90 #[.pointer (some ⟨tp,0,none⟩),.int .i64 a.g,.bool a.y] w4.drew (QiP w4.drew B tp tg tb tc v.gs v.vs a.g a.y)) :=
     Qe6 a.g a.y (by omega) (by omega) (by have:=hWOK.out.four HG.out.k.cf;omega) _ hI.tal hWOK.out.tal
    replace hI:=Lib.hid hI
    have hbx:∀ k,k=tb->k ≠ E.pp ⟨a.is,a.iq⟩/\k ≠ w.heap.size:=fun k e=>⟨fun z=>(by
     obtain ⟨es,clock,hb,_⟩:=hI.out.tal.own
     have h1:=hI.out.blk
     rw [<- z,e,hb] at h1
     cases h1),fun z=>(by have:=hlt0.out k (by rw [e,hI.out.ltb];intro z;cases z);omega)⟩
    go_region_held3 (fun w'=>w'.cell? ⟨E.pp ⟨a.is,a.iq⟩,5,none⟩=some (.pointer (some ⟨tp,0,none⟩))/\w'.cell? ⟨w.heap.size,7,none⟩=some (.int .i64 a.g)/\w'.cell? ⟨w.heap.size,9,none⟩=some (.bool a.y))
     (first | exact ⟨d5,f7,f9⟩ | exact ⟨hg5.cell d5 (fun e=>(hbx _ (by cases e;rfl)).1 rfl),hg5.cell f7 (fun e=>(hbx _ (by cases e;rfl)).2 rfl),hg5.cell f9 (fun e=>(hbx _ (by cases e;rfl)).2 rfl)⟩)
     ((go_at_call 90;(with_reducible refine hL.out.mono ?_);rintro e w5 ⟨rfl,ht5,hg5⟩))
    all_goals
     go_wp2
     go_end0
     refine ⟨rfl,?_⟩
     rw [HE.out]
     obtain ⟨hM5,ho5⟩:=hG4.out.m.vote hv.out hI.out ht5 hg5
     have hlb:∀ k,k=tb->lab k = .one ⟨a.is,a.iq⟩:=fun k e=>by rw [e];exact hI.out.ltb
     refine ⟨_,E,ov,{ m:=hM5,o:=hG4.out.o.rest ho5 hlb hG4.out.lt (by intro z;cases z),k:=?_,cn:={ (HG.out.more (Nat.le_succ n)).cn with },tb:=hG4.out.tb.out ho5 (fun k e=>hG4.out.lb k (by rw [hlb k e];intro z;cases z)) },(hstep.out _ hb4').trans (QE.relab ho5 hlb (by intro z;cases z))⟩
     exact (HG.out.k.setW (v:={ v with vs:=ZS v.gs v.vs a.g a.y }) (by rw [hv.out];rfl) ⟨hWOK.out.id,hWOK.out.f,hWOK.out.gs,hWOK.out.me,hWOK.out.tal.put a.g a.y⟩).more (Nat.le_succ _)
  case false =>
   simp only [Bool.false_eq_true,if_false] at hptr
   subst hptr
   have hokF:Y7 (⟨a.is,a.iq⟩,a.g):=⟨hok,by unfold Ui;simp only;omega⟩
   by_cases hk2:a.k=2
   ·have q2:(a.k == 2)=true:=by simp [hk2]
    have HE:Hid (Zm g x a.k ⟨a.is,a.iq⟩ a.g a.st a.y=if (Qe x.st (⟨a.is,a.iq⟩,a.g)).isSome=true then x else { x with st:=Qs x.st (⟨a.is,a.iq⟩,a.g) a.st }):=by show _=_;rw [HH.out,if_neg (by decide),if_pos hk2]
    clear hk2 hk
    go_quiet (fail)
    go_wp2
    obtain ⟨w4,hw4⟩:∃ w4,w3.drewN nq=w4:=⟨_,rfl⟩
    have hb4:Below W.heap.size W w4:=by rw [<- hw4];exact Qj hb3 _
    have hk4:w4.heap[w.heap.size+1]? = some (.cells #[.int .i64 a.is,.int .i64 a.iq,.int .i64 a.g] 179 (0,0)):=by rw [<- hw4];exact Xw hk3 (Qj (Below.refl _ _) _)
    rw [hw4]
    clear hw4
    obtain ⟨sB,hsB⟩:∃ b,(Qe x.st (⟨a.is,a.iq⟩,a.g)).isSome=b:=⟨_,rfl⟩
    obtain ⟨sv,hsv⟩:∃ b,(Qe x.st (⟨a.is,a.iq⟩,a.g)).getD 0=b:=⟨_,rfl⟩
    have ls:∀ nq,(Instr.lookup 104 (.map (some E.ms)) (.agg #[.int .i64 a.is,.int .i64 a.iq,.int .i64 a.g]) true).run Tryz.prog (w4.drewN nq) = .ok (.tuple #[.int .u64 (sv:Int),.bool sB]) (w4.drewN nq):=fun nq=>by
     have:=HG.out.m.lookS hokF (Qj hb4 nq)
     rw [hsB,hsv] at this
     exact this
    have d7:=keep hb4 c7
    obtain ⟨y0,y1,y2⟩:w4.cell? ⟨w.heap.size+1,0,none⟩=some (.int .i64 a.is)/\w4.cell? ⟨w.heap.size+1,1,none⟩=some (.int .i64 a.iq)/\w4.cell? ⟨w.heap.size+1,2,none⟩=some (.int .i64 a.g):=by
     refine ⟨?_,?_,?_⟩ <;> (rw [cell_of_row w4 _ _ _ _ _ hk4];rfl)
    rw [hsB] at HE
    go_quiet (fail)
    cases sB
    case true =>
     go_wp2
     go_end0
     exact ⟨rfl,hsame.out _ (Qj hb4 _) (by rw [HE.out];rfl)⟩
    case false =>
     go_wp2
     obtain ⟨w5,hw5⟩:∃ w5,w4.drewN nq=w5:=⟨_,rfl⟩
     have hb5:Below W.heap.size W w5:=by rw [<- hw5];exact Qj hb4 _
     have hk5:w5.drew.heap[w.heap.size+1]? = some (.cells #[.int .i64 a.is,.int .i64 a.iq,.int .i64 a.g] 179 (0,0)):=by rw [<- hw5];exact Xw hk4 (Qb (Qj (Below.refl _ _) _))
     rw [hw5]
     clear hw5 ls y0 y1 y2
     have hb5':=Qa hb5 (Qb (Below.refl w5.heap.size w5))
     have hG5:=Lib.hid (HG.out.later hb5')
     obtain ⟨w6,hrun,hm6,ht6⟩:=Za.put Jz hG5.out.m.hs Tryz.underlying104 hns.out.1 (⟨a.is,a.iq⟩,a.g) hokF (.int .u64 (a.st:Int))
     replace hrun:(Instr.mapUpdate 104 (.map (some E.ms)) (.agg #[.int .i64 a.is,.int .i64 a.iq,.int .i64 a.g]) (.int .u64 (a.st:Int))).run Tryz.prog w5.drew = .ok () w6:=hrun
     have ho6:Qg (fun k=>k=E.ms) w5.drew w6:=Qg.of_turned ht6
     have e7:=keep hb5' c7
     have e8:=keep hb5' b8
     obtain ⟨y0,y1,y2⟩:w5.drew.cell? ⟨w.heap.size+1,0,none⟩=some (.int .i64 a.is)/\w5.drew.cell? ⟨w.heap.size+1,1,none⟩=some (.int .i64 a.iq)/\w5.drew.cell? ⟨w.heap.size+1,2,none⟩=some (.int .i64 a.g):=by
      refine ⟨?_,?_,?_⟩ <;> (rw [cell_of_row w5.drew _ _ _ _ _ hk5];rfl)
     have hlm:=hG5.out.m.lms
     have hne:p ≠ E.ms/\w.heap.size ≠ E.ms/\w.heap.size+1 ≠ E.ms:=⟨fun z=>(by rw [<- z,hG5.out.m.lm] at hlm;cases hlm),fun z=>(by have:=hlt0.out E.ms (by rw [hlm];decide);omega),fun z=>(by have:=hlt0.out E.ms (by rw [hlm];decide);omega)⟩
     replace ht6:=Lib.hid ht6
     replace hm6:=Lib.hid hm6
     replace ho6:=Lib.hid ho6
     go_region_held3 (fun w'=>w'.cell? ⟨p,7,none⟩=some (.map (some E.ms))/\w'.cell? ⟨w.heap.size+1,0,none⟩=some (.int .i64 a.is)/\w'.cell? ⟨w.heap.size+1,1,none⟩=some (.int .i64 a.iq)/\w'.cell? ⟨w.heap.size+1,2,none⟩=some (.int .i64 a.g)/\w'.cell? ⟨w.heap.size,8,none⟩=some (.int .u64 (a.st:Int)))
      (first | exact ⟨e7,y0,y1,y2,e8⟩ | exact ⟨ho6.out.cell e7 hne.1,ho6.out.cell y0 hne.2.2,ho6.out.cell y1 hne.2.2,ho6.out.cell y2 hne.2.2,ho6.out.cell e8 hne.2.1⟩)
      (fail)
     all_goals
      go_wp2
      go_end0
      refine ⟨rfl,?_⟩
      rw [HE.out]
      have hc:=(HG.out.more (Nat.le_succ n)).cn
      refine ⟨_,_,ov,{ m:=hG5.out.m.addSt ht6.out hm6.out,o:=hG5.out.o.rest ho6.out (fun k e=>by rw [e];exact hlm) hG5.out.lt (by decide),k:=?_,cn:=?_,tb:=hG5.out.tb.out ho6.out (fun k e=>hG5.out.lb k (by rw [e,hlm];decide)) },(hstep.out _ hb5').trans (QE.relab ho6.out (fun k e=>by rw [e];exact hlm) (by decide))⟩
      ·refine ((HG.out.k.setSt fun k s hk=>?_).more (Nat.le_succ _))
       rw [Qw] at hk
       split at hk
       ·cases hk;omega
       ·exact HG.out.k.st k s hk
      ·exact { hc with ns:=Nat.succ_le_succ HG.out.cn.ns }
   ·have q2:(a.k == 2)=false:=by simp [hk2]
    have HE:Hid (Zm g x a.k ⟨a.is,a.iq⟩ a.g a.st a.y=if (Qe x.vo (⟨a.is,a.iq⟩,a.g)).isSome=true then x else { x with vo:=Qs x.vo (⟨a.is,a.iq⟩,a.g) a.y }):=by show _=_;rw [HH.out,if_neg (by decide),if_neg hk2]
    clear hk2 hk
    go_quiet (fail)
    go_wp2
    obtain ⟨w4,hw4⟩:∃ w4,w3.drewN nq=w4:=⟨_,rfl⟩
    have hb4:Below W.heap.size W w4:=by rw [<- hw4];exact Qj hb3 _
    have hk4:w4.heap[w.heap.size+1]? = some (.cells #[.int .i64 a.is,.int .i64 a.iq,.int .i64 a.g] 179 (0,0)):=by rw [<- hw4];exact Xw hk3 (Qj (Below.refl _ _) _)
    rw [hw4]
    clear hw4
    obtain ⟨sB,hsB⟩:∃ b,(Qe x.vo (⟨a.is,a.iq⟩,a.g)).isSome=b:=⟨_,rfl⟩
    obtain ⟨sv,hsv⟩:∃ b,(Qe x.vo (⟨a.is,a.iq⟩,a.g)).getD false=b:=⟨_,rfl⟩
    have ls:∀ nq,(Instr.lookup 105 (.map (some E.mv)) (.agg #[.int .i64 a.is,.int .i64 a.iq,.int .i64 a.g]) true).run Tryz.prog (w4.drewN nq) = .ok (.tuple #[.bool sv,.bool sB]) (w4.drewN nq):=fun nq=>by
     have:=HG.out.m.lookV hokF (Qj hb4 nq)
     rw [hsB,hsv] at this
     exact this
    have d8:=keep hb4 c8
    obtain ⟨y0,y1,y2⟩:w4.cell? ⟨w.heap.size+1,0,none⟩=some (.int .i64 a.is)/\w4.cell? ⟨w.heap.size+1,1,none⟩=some (.int .i64 a.iq)/\w4.cell? ⟨w.heap.size+1,2,none⟩=some (.int .i64 a.g):=by
     refine ⟨?_,?_,?_⟩ <;> (rw [cell_of_row w4 _ _ _ _ _ hk4];rfl)
    rw [hsB] at HE
    go_quiet (fail)
    cases sB
    case true =>
     go_wp2
     go_end0
     exact ⟨rfl,hsame.out _ (Qj hb4 _) (by rw [HE.out];rfl)⟩
    case false =>
     go_wp2
     obtain ⟨w5,hw5⟩:∃ w5,w4.drewN nq=w5:=⟨_,rfl⟩
     have hb5:Below W.heap.size W w5:=by rw [<- hw5];exact Qj hb4 _
     have hk5:w5.drew.heap[w.heap.size+1]? = some (.cells #[.int .i64 a.is,.int .i64 a.iq,.int .i64 a.g] 179 (0,0)):=by rw [<- hw5];exact Xw hk4 (Qb (Qj (Below.refl _ _) _))
     rw [hw5]
     clear hw5 ls y0 y1 y2
     have hb5':=Qa hb5 (Qb (Below.refl w5.heap.size w5))
     have hG5:=Lib.hid (HG.out.later hb5')
     obtain ⟨w6,hrun,hm6,ht6⟩:=Za.put Jz hG5.out.m.hv Tryz.underlying105 hns.out.2 (⟨a.is,a.iq⟩,a.g) hokF (.bool a.y)
     replace hrun:(Instr.mapUpdate 105 (.map (some E.mv)) (.agg #[.int .i64 a.is,.int .i64 a.iq,.int .i64 a.g]) (.bool a.y)).run Tryz.prog w5.drew = .ok () w6:=hrun
     have ho6:Qg (fun k=>k=E.mv) w5.drew w6:=Qg.of_turned ht6
     have e7:=keep hb5' c8
     have e8:=keep hb5' b9
     obtain ⟨y0,y1,y2⟩:w5.drew.cell? ⟨w.heap.size+1,0,none⟩=some (.int .i64 a.is)/\w5.drew.cell? ⟨w.heap.size+1,1,none⟩=some (.int .i64 a.iq)/\w5.drew.cell? ⟨w.heap.size+1,2,none⟩=some (.int .i64 a.g):=by
      refine ⟨?_,?_,?_⟩ <;> (rw [cell_of_row w5.drew _ _ _ _ _ hk5];rfl)
     have hlm:=hG5.out.m.lmv
     have hne:p ≠ E.mv/\w.heap.size ≠ E.mv/\w.heap.size+1 ≠ E.mv:=⟨fun z=>(by rw [<- z,hG5.out.m.lm] at hlm;cases hlm),fun z=>(by have:=hlt0.out E.mv (by rw [hlm];decide);omega),fun z=>(by have:=hlt0.out E.mv (by rw [hlm];decide);omega)⟩
     replace ht6:=Lib.hid ht6
     replace hm6:=Lib.hid hm6
     replace ho6:=Lib.hid ho6
     go_region_held3 (fun w'=>w'.cell? ⟨p,8,none⟩=some (.map (some E.mv))/\w'.cell? ⟨w.heap.size+1,0,none⟩=some (.int .i64 a.is)/\w'.cell? ⟨w.heap.size+1,1,none⟩=some (.int .i64 a.iq)/\w'.cell? ⟨w.heap.size+1,2,none⟩=some (.int .i64 a.g)/\w'.cell? ⟨w.heap.size,9,none⟩=some (.bool a.y))
      (first | exact ⟨e7,y0,y1,y2,e8⟩ | exact ⟨ho6.out.cell e7 hne.1,ho6.out.cell y0 hne.2.2,ho6.out.cell y1 hne.2.2,ho6.out.cell y2 hne.2.2,ho6.out.cell e8 hne.2.1⟩)
      (fail)
     all_goals
      go_wp2
      go_end0
      refine ⟨rfl,?_⟩
      rw [HE.out]
      have hc:=(HG.out.more (Nat.le_succ n)).cn
      refine ⟨_,_,ov,{ m:=hG5.out.m.addVo ht6.out hm6.out,o:=hG5.out.o.rest ho6.out (fun k e=>by rw [e];exact hlm) hG5.out.lt (by decide),k:=?_,cn:=?_,tb:=hG5.out.tb.out ho6.out (fun k e=>hG5.out.lb k (by rw [e,hlm];decide)) },(hstep.out _ hb5').trans (QE.relab ho6.out (fun k e=>by rw [e];exact hlm) (by decide))⟩
      ·exact (HG.out.k.setVo _).more (Nat.le_succ _)
      ·exact { hc with nv:=Nat.succ_le_succ HG.out.cn.nv }
set_option maxRecDepth 100000 in
set_option maxHeartbeats 4000000 in
theorem Qlx {w:World} {B p:Nat} {c:Ql} {g:Int} {lab:Nat->QL} {x:Qk} {E:Q9} {ov:Value} (h:Qo w B p c g lab x E ov) {i:Qp} (hi:Y6 i) :
  Calls Tryz.prog 13 #[.pointer (some ⟨p,0,none⟩),.agg #[.int .i64 i.ses,.int .i64 i.seq]] w fun e w'=>e = .returned (.tuple #[.bool (Kc x i).1,.int .u64 ((Kc x i).2:Int),.bool (Qe x.dc i).isSome])/\Below w.heap.size w w':=by
 obtain ⟨W,eW,HB,b0,b1⟩:=Y5 w (.int .i64 i.ses) (.int .i64 i.seq) 34
 have hM:=Lib.hid (h.later HB)
 obtain ⟨dB,hdB⟩:∃ b,(Qe x.dc i).isSome=b:=⟨_,rfl⟩
 obtain ⟨y,hy⟩:∃ y,(Kc x i).1=y:=⟨_,rfl⟩
 obtain ⟨s,hs⟩:∃ s,(Kc x i).2=s:=⟨_,rfl⟩
 have LD:Hid (∀ wz,Below W.heap.size W wz->(Instr.lookup 103 (.map (some E.md)) (.agg #[.int .i64 i.ses,.int .i64 i.seq]) true).run Tryz.prog wz = .ok (.tuple #[.agg #[.bool y,.int .u64 (s:Int)],.bool dB]) wz):=fun wz hb=>by
  have:=hM.out.lookD hi hb
  rw [hdB,Qe8,hy,hs] at this
  exact this
 obtain ⟨_,_,_,_,_,_,c6,_⟩:=hM.out.cs
 rw [hdB,hy,hs]
 clear h hdB hy hs
 go_enter Tryz.func13,Tryz.ntmps13
 go_wp2
 have S3:Hid (∀ wz,Below W.heap.size W wz->wz.cell? ⟨p,6,none⟩=some (.map (some E.md))/\wz.cell? ⟨w.heap.size,0,none⟩=some (.int .i64 i.ses)/\wz.cell? ⟨w.heap.size,1,none⟩=some (.int .i64 i.seq)):=fun wz hb=>⟨keep hb c6,keep hb b0,keep hb b1⟩
 have l1:=LD.out W.drew (Qb (Below.refl _ _))
 have l2:=LD.out _ (Qb (Qc W (.cells #[.bool false,.int .u64 0] 112)))
 go_cut [7,8] (fun s7 u wx=>s7 = .pointer (some ⟨W.heap.size,0,none⟩)/\u = .bool dB/\Below W.heap.size W wx/\wx.heap[W.heap.size]? = some (.cells #[.bool y,.int .u64 (s:Int)] 112 (0,0)))
 case first =>
  go_region_held3 (fun w'=>w'.cell? ⟨p,6,none⟩=some (.map (some E.md))/\w'.cell? ⟨w.heap.size,0,none⟩=some (.int .i64 i.ses)/\w'.cell? ⟨w.heap.size,1,none⟩=some (.int .i64 i.seq))
   (first | exact S3.out _ (Qb (Below.refl _ _)) | exact S3.out _ (Qb (Qc _ _)))
   (fail)
  all_goals
   go_wp2
   go_meet
   exact ⟨rfl,rfl,Qb (Qc _ _),heap_alloc_new W _⟩
 case rest =>
  obtain ⟨rfl,rfl,hbc,hdc⟩:=hcut
  obtain ⟨w2,rfl⟩:∃ wq:World,wq=wc:=⟨_,rfl⟩
  clear l1 l2
  obtain ⟨z0,z1⟩:w2.cell? ⟨W.heap.size,0,none⟩=some (.bool y)/\w2.cell? ⟨W.heap.size,1,none⟩=some (.int .u64 (s:Int)):=by
   refine ⟨?_,?_⟩ <;> (rw [cell_of_row w2 _ _ _ _ _ hdc];rfl)
  go_wp2
  go_quiet (fail)
  go_wp2
  go_ret3
  exact ⟨rfl,Qj (Qa HB hbc) _⟩
end Go.Proofs.YtcldpmkhpmlcbaaGreatDoor
