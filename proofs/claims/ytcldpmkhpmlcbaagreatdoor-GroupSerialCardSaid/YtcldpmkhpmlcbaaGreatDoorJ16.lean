/- part -/
import Derived.Test.YtcldpmkhpmlcbaaGreatDoorJ9
import Derived.Test.YtcldpmkhpmlcbaaGreatDoorJ2
import Derived.Test.YtcldpmkhpmlcbaaGreatDoorJ14
import Derived.Test.YtcldpmkhpmlcbaaGreatDoorJ15
set_option linter.unusedVariables false
set_option linter.unusedSimpArgs false
namespace Go.Proofs.YtcldpmkhpmlcbaaGreatDoor
def XV (q:QD):List Qp:=q.l.map Qz.id
theorem Qdt {q:QD} {i:Qp}:Zn q i=true ↔ i ∈ XV q:=by
 unfold Zn ZA XV
 rw [decide_eq_true_iff,List.findIdx_lt_length,List.mem_map]
 simp
theorem V4 {q:QD} {i:Qp} {gs:List Int} (h:Ys q i gs=0):(XV (QG q i gs)).Perm (XV q ++ [i])/\(QG q i gs).l.length=q.l.length+1/\(QG q i gs).g=q.g:=by
 rw [QG,if_pos h]
 refine ⟨?_,?_,rfl⟩
 ·have:=(Zz (q.l ++ [Ks q i gs])).map Qz.id
  rw [List.map_append] at this
  exact this
 ·show (Je _).length=_
  rw [Qfp];simp
theorem QmX {q:QD} {i:Qp} {gs:List Int} (h:Ys q i gs ≠ 0):QG q i gs=q:=by rw [QG,if_neg h]
theorem Qal (q:QD) (i:Qp) (g:Int) (s:Nat):(XV (QZ q i g s)).Perm (XV q)/\(QZ q i g s).l.length=q.l.length/\(QZ q i g s).g=q.g:=by
 rw [QZ]
 split
 ·rename_i e
  have e1:Zn q i=true:=by
   cases h:Zn q i
   ·rw [ZQ,if_pos h] at e;cases e
   ·rfl
  obtain ⟨hk,hid,hm⟩:=Xt e1
  refine ⟨?_,?_,rfl⟩
  ·have:=(Zz (q.l.set (ZA q.l i) (QP (Zo q i) g s))).map Qz.id
   rw [QiH hk (by rfl)] at this
   exact this
  ·show (Je _).length=_
   rw [Qfp,List.length_set]
 ·exact ⟨List.Perm.refl _,rfl,rfl⟩
theorem QmY (q:QD):XV (YV q)=(XV q).drop 1:=by
 unfold XV YV
 exact List.map_drop
theorem QfP {q:QD} {i:Qp} {s:Nat} (h:Z2 q=some (i,s)):∃ l,XV q=i :: l:=by
 unfold Z2 at h
 unfold XV
 split at h
 ·cases h
 ·rename_i o l e
  split at h
  ·cases h
   exact ⟨l.map Qz.id,by rw [e];rfl⟩
  ·cases h
theorem XO {c:Ql} {t:Tx} (hc:Qn c=true):(Qf c t).Pairwise (· < ·)/\(∀ x ∈ Qf c t,0<=x/\x<(c.reps.length:Int))/\(Qf c t).length<=c.reps.length:=by
 unfold Qf
 split
 ·unfold Y0
  rw [if_pos hc]
  have h:=X6 c (QJ t ++ QT t) c.reps.length
  refine ⟨h.1,fun x hx=>?_,Qah _ _ _⟩
  obtain ⟨n,hn,_,rfl⟩:=(h.2 x).1 hx
  omega
 ·exact ⟨List.Pairwise.nil,fun x hx=>(by cases hx),Nat.zero_le _⟩
theorem ZI {c:Ql} (h:Qn c=true):1<=c.reps.length/\c.reps.length<=4:=by
 simp only [Qn,XI,Bool.and_eq_true,decide_eq_true_eq] at h
 exact ⟨h.1.1.1.1,h.1.1.1.2⟩
theorem Qen {gs:List Int} (hp:gs.Pairwise (· < ·)) (hb:∀ x ∈ gs,0<=x/\x<4):∀ k,k<=gs.length->J8 gs k=true
 | 0,_=>rfl
 | k+1,hk=>by
  rw [J8,Qen hp hb k (by omega)]
  have e:gs.getD k 0=gs[k]:=by simp [List.getD_eq_getElem?_getD,show k<gs.length by omega]
  have h1:=hb gs[k] (List.getElem_mem _)
  rw [e]
  have h2:(k == 0 || decide (gs.getD (k-1) 0<gs[k]))=true:=by
   by_cases hk0:k=0
   ·simp [hk0]
   ·have e2:gs.getD (k-1) 0=gs[k-1]:=by simp [List.getD_eq_getElem?_getD,show k-1<gs.length by omega]
    rw [e2]
    have:=List.pairwise_iff_getElem.1 hp (k-1) k (by omega) (by omega) (by omega)
    simp [this]
  rw [h2]
  simp [h1.1,h1.2]
theorem Qb3 {c:Ql} {t:Tx} {g:Int} (hc:Qn c=true) (hg:(Qf c t).contains g=true):Yy g (Qf c t)=true:=by
 obtain ⟨h1,h2,h3⟩:=XO (t:=t) hc
 have h4:=ZI hc
 rw [Yy,Qen h1 (fun x hx=>by have:=h2 x hx;omega) _ (Nat.le_refl _),hg]
 rfl
theorem Vg {c:Ql} {t:Tx} (hc:Qn c=true):(Qf c t).Nodup:=(XO (t:=t) hc).1.imp fun h=>by omega
theorem Qht {l:List ByteArray} (h:QB l l.length=true):l.Pairwise (fun a b=>Qy a b=true)/\∀ k ∈ l,Yb k=true:=by
 constructor
 ·rw [List.pairwise_iff_getElem]
  intro i j hi hj hij
  have:=Uk h hij hj
  simpa [List.getD_eq_getElem?_getD,hi,hj] using this
 ·intro k hk
  obtain ⟨i,hi,rfl⟩:=List.mem_iff_getElem.1 hk
  have:=QkH h hi
  simpa [List.getD_eq_getElem?_getD,hi] using this
theorem YR {t:Tx} (h:Qh t=true):idB t.ses t.seq=true/\QB (QJ t) (QJ t).length=true/\QB (QT t) (QT t).length=true/\Xb t.wrs=true:=by
 simp only [Qh,Bool.and_eq_true] at h
 refine ⟨h.1.1.1.1.1.1,?_,?_,h.2⟩
 ·have:=h.1.1.2
  simpa [QJ] using this
 ·have:=h.1.2
  simpa [QT] using this
theorem QmZ {l:List Wr} (hp:(l.map Wr.key).Pairwise (fun a b=>Qy a b=true)) (hk:∀ x ∈ l,Yb x.key=true) (hv:∀ x ∈ l,Ze x.val=true):Yv l=true:=by
 have:∀ k,k<=l.length->ZR l k=true:=by
  intro k
  induction k with
  | zero=>intro _;rfl
  | succ k ih =>
   intro hkl
   have e:l.getD k Zf=l[k]:=by simp [List.getD_eq_getElem?_getD,show k<l.length by omega]
   have h2:(k == 0 || Qy (l.getD (k-1) Zf).key l[k].key)=true:=by
    by_cases hk0:k=0
    ·simp [hk0]
    ·have e2:l.getD (k-1) Zf=l[k-1]:=by simp [List.getD_eq_getElem?_getD,show k-1<l.length by omega]
     rw [e2]
     have:=List.pairwise_iff_getElem.1 hp (k-1) k (by simp;omega) (by simp;omega) (by omega)
     simp only [List.getElem_map] at this
     rw [this];simp
   rw [ZR,ih (by omega),KM,e,hk _ (List.getElem_mem _),hv _ (List.getElem_mem _),h2]
   rfl
 exact this _ (Nat.le_refl _)
theorem J4 {c:Ql} {t:Tx} {g:Int} (h:Qh t=true):Yv (Qr c t g)=true:=by
 obtain ⟨_,_,h2,h3⟩:=YR h
 obtain ⟨h4,h5⟩:=Qht h2
 refine QmZ ?_ (fun x hx=>h5 _ (List.mem_map_of_mem (List.mem_filter.1 hx |>.1))) (fun x hx=>List.all_eq_true.1 h3 x (List.mem_filter.1 hx |>.1))
 exact h4.sublist ((List.filter_sublist).map Wr.key)
theorem Ux {c:Ql} {t:Tx} {g:Int} (h:Qh t=true):(Qr c t g).length<=6:=Nat.le_trans (List.length_filter_le _ _) (Xo h).2
structure WOK (c:Ql) (g:Int) (i:Qp) (v:Zj):Prop where
 id:Qd v.t=i
 f:Qh v.t=true
 gs:v.gs=Qf c v.t
 me:v.gs.contains g=true
 tal:Yh v.gs v.vs
structure Zd (c:Ql) (g:Int) (n:Nat) (m:Qk):Prop where
 cf:Qn c=true
 g0:0<=g
 g1:g<(c.reps.length:Int)
 q:Jc m.q
 qg:m.q.g=g
 ids:∀ i,(Qe m.wt i).isSome=true ↔ i ∈ XV m.q
 w:∀ i v,Qe m.wt i=some v->WOK c g i v
 dis:∀ i,(Qe m.dc i).isSome=true->Qe m.wt i=none
 s:Yw m.s
 a:m.a.length+m.s.low=m.s.last+1
 cnt:m.s.last+m.q.l.length<=n
 its:(Qq m.s.ks).length<=6 * m.s.last
 st:∀ k s,Qe m.st k=some s->s<18446744073709551616
 dk:∀ i,(Qe m.dc i).isSome=true->idB i.ses i.seq=true
section
variable {c:Ql} {g:Int} {n:Nat} {m:Qk}
theorem Zd.more (h:Zd c g n m) {n':Nat} (hn:n<=n'):Zd c g n' m:={ h with cnt:=Nat.le_trans h.cnt hn }
theorem Zd.has (h:Zd c g n m) {i:Qp}:Zn m.q i=(Qe m.wt i).isSome:=by
 rw [Bool.eq_iff_iff,Qdt,h.ids]
theorem Zd.g4 (h:Zd c g n m):g<4:=by
 have:=h.g1
 have:=ZI h.cf
 omega
theorem WOK.four {i:Qp} {v:Zj} (h:WOK c g i v) (hc:Qn c=true):v.gs.length<=4:=by
 rw [h.gs]
 have:=(XO (t:=v.t) hc).2.2
 have:=ZI hc
 omega
theorem Qdu (hc:Qn c=true) (h0:0<=g) (h1:g<(c.reps.length:Int)):Zd c g 0 (YP g):=by
 have:=ZI hc
 exact ⟨hc,h0,h1,Qo0 ⟨h0,by omega⟩,rfl,fun i=>by simp [YP,XV,q0,Jf],fun i v h=>by simp [YP,Jf] at h,fun i h=>by simp [YP,Jf],QgM,rfl,Nat.le_refl _,Nat.le_refl _,fun k s h=>by simp [YP,Jf] at h,fun i h=>by simp [YP,Jf] at h⟩
theorem Zd.setW (h : Zd c g n m) {i : Qp} {v : Zj} (hi : (Qe m.wt i).isSome = true) (hv : WOK c g i v) : Zd c g n { m with wt := Qs m.wt i v } :=
  { h with
    ids := fun j => by
      rw [Qw]
      by_cases e : j = i
      · subst e; rw [if_pos rfl]; simp [<- h.ids, hi]
      · rw [if_neg e]; exact h.ids j
    w := fun j u hu => by
      rw [Qw] at hu
      by_cases e : j = i
      · subst e; rw [if_pos rfl] at hu; cases hu; exact hv
      · rw [if_neg e] at hu; exact h.w j u hu
    dis := fun j hj => by
      rw [Qw]
      have := h.dis j hj
      by_cases e : j = i
      · subst e; rw [this] at hi; cases hi
      · rw [if_neg e]; exact this }
theorem Zd.setQ (h:Zd c g n m) (i:Qp) (h':Int) (s:Nat):Zd c g n { m with q:=QZ m.q i h' s }:=by
 obtain ⟨e1,e2,e3⟩:=Qal m.q i h' s
 exact { h with q:=Qa5 h.q i h' s,qg:=e3.trans h.qg,ids:=fun j=>(h.ids j).trans e1.mem_iff.symm,cnt:=by show _+_<=_;rw [e2];exact h.cnt }
theorem Zd.setSt (h:Zd c g n m) {st:List (ZO × Nat)} (hs:∀ k s,Qe st k=some s->s<18446744073709551616):Zd c g n { m with st:=st }:={ h with st:=hs }
theorem Zd.setVo (h:Zd c g n m) (vo:List (ZO × Bool)):Zd c g n { m with vo:=vo }:={ h with }
theorem Qdv (h:Zd c g n m) (k:Int) (i:Qp) (hh:Int) {s:Nat} (hs:s<18446744073709551616) (y:Bool):Zd c g n (Zm g m k i hh s y):=by
 unfold Zm
 split
 ·exact h
 ·split
  ·rename_i hw
   split
   ·exact h.setQ i hh s
   ·obtain ⟨v,hv⟩:=Option.isSome_iff_exists.1 hw
    have e:ZD m i=v:=by rw [ZD,hv];rfl
    rw [e]
    have h1:=h.w i v hv
    exact h.setW hw { h1 with tal:=h1.tal.put hh y }
  ·split
   ·split
    ·exact h
    ·refine h.setSt fun k s' hk=>?_
     rw [Qw] at hk
     split at hk
     ·cases hk;exact hs
     ·exact h.st k s' hk
   ·split
    ·exact h
    ·exact h.setVo _
end
theorem Kg {i:Qp}:∀ (gs:List Int) {q:QD} {st:List (ZO × Nat)},Jc q->(∀ k s,Qe st k=some s->s<18446744073709551616) ->
  Jc (gs.foldl (Qx i) (q,st)).1/\(gs.foldl (Qx i) (q,st)).1.g=q.g/\(XV (gs.foldl (Qx i) (q,st)).1).Perm (XV q)/\(gs.foldl (Qx i) (q,st)).1.l.length=q.l.length/\∀ k s,Qe (gs.foldl (Qx i) (q,st)).2 k=some s->s<18446744073709551616
 | [],q,st,hq,hs=>⟨hq,rfl,List.Perm.refl _,rfl,hs⟩
 | h :: gs,q,st,hq,hs=>by
  rw [List.foldl_cons]
  have hs2:∀ k s,Qe (Zc st (i,h)) k=some s->s<18446744073709551616:=fun k s hk=>by
   rw [ZF] at hk
   split at hk
   ·cases hk
   ·exact hs k s hk
  cases e:Qe st (i,h) with
  | none =>
   have e2:Qx i (q,st) h=(q,Zc st (i,h)):=by rw [Qx,e]
   rw [e2]
   exact Kg gs hq hs2
  | some s =>
   have e2:Qx i (q,st) h=(QZ q i h s,Zc st (i,h)):=by rw [Qx,e]
   rw [e2]
   obtain ⟨p1,p2,p3⟩:=Qal q i h s
   obtain ⟨r1,r2,r3,r4,r5⟩:=Kg (i:=i) gs (Qa5 hq i h s) hs2
   exact ⟨r1,r2.trans p3,r3.trans p1,r4.trans p2,r5⟩
theorem KF {i:Qp} {gs0:List Int}:∀ (gs:List Int) {vs:List (Int × Bool)} {vo:List (ZO × Bool)},Yh gs0 vs->Yh gs0 (gs.foldl (Q1 gs0 i) (vs,vo)).1
 | [],vs,vo,h=>h
 | g :: gs,vs,vo,h=>by
  rw [List.foldl_cons]
  unfold Q1
  cases e:Qe vo (i,g) with
  | none=>exact KF gs h
  | some y=>exact KF gs (h.put g y)
section
variable {c:Ql} {g:Int} {n:Nat} {m:Qk}
theorem QaE {t:Tx} (h:Ye c g m t=4):(Qf c t).contains g=true/\Qe m.dc (Qd t)=none/\Qe m.wt (Qd t)=none/\Ys m.q (Qd t) (Qf c t)=0:=by
 unfold Ye at h
 split at h;· cases h
 rename_i h1
 split at h;· cases h
 rename_i h2
 split at h;· cases h
 rename_i h3
 split at h;· cases h
 rename_i h4
 refine ⟨by simpa using h1,?_,?_,by simpa using h4⟩
 ·cases e:Qe m.dc (Qd t) with
  | none=>rfl
  | some v=>rw [e] at h2;exact absurd rfl h2
 ·cases e:Qe m.wt (Qd t) with
  | none=>rfl
  | some v=>rw [e] at h3;exact absurd rfl h3
theorem Qam (h:Zd c g n m) {t:Tx} (ht:Qh t=true):Zd c g (n+1) (Zl c g m t):=by
 unfold Zl
 split
 ·rename_i hW
  obtain ⟨h1,h2,h3,h4⟩:=QaE hW
  obtain ⟨p1,p2,p3⟩:=V4 h4
  obtain ⟨r1,r2,r3,r4,r5⟩:=Kg (i:=Qd t) (Qf c t) (Qc9 h.q (Qd t) (Qf c t)) h.st
  have hv:WOK c g (Qd t) ⟨t,Qf c t,((Qf c t).foldl (Q1 (Qf c t) (Qd t)) ([],m.vo)).1⟩ :=
   ⟨rfl,ht,rfl,h1,KF _ ⟨Vg h.cf,List.Pairwise.nil,fun v hv=>by cases hv⟩⟩
  refine { h with q:=r1,qg:=(r2.trans p3).trans h.qg,ids:=fun j=>?_,w:=fun j u hu=>?_,dis:=fun j hj=>?_,cnt:=?_,st:=r5 }
  ·show (Qe (Qs m.wt (Qd t) _) j).isSome=true ↔ j ∈ XV ((Qf c t).foldl (Qx (Qd t)) (QG m.q (Qd t) (Qf c t),m.st)).1
   rw [(r3.trans p1).mem_iff,Qw,List.mem_append,List.mem_singleton]
   by_cases e:j=Qd t
   ·simp [e]
   ·rw [if_neg e,h.ids];simp [e]
  ·have hu':Qe (Qs m.wt (Qd t) _) j=some u:=hu
   rw [Qw] at hu'
   by_cases e:j=Qd t
   ·rw [if_pos e] at hu';cases hu';rw [e];exact hv
   ·rw [if_neg e] at hu';exact h.w j u hu'
  ·show Qe (Qs m.wt (Qd t) _) j=none
   have hj':(Qe m.dc j).isSome=true:=hj
   rw [Qw]
   by_cases e:j=Qd t
   ·rw [e,h2] at hj';cases hj'
   ·rw [if_neg e];exact h.dis j hj'
  ·show m.s.last+((Qf c t).foldl (Qx (Qd t)) (QG m.q (Qd t) (Qf c t),m.st)).1.l.length<=n+1
   rw [r4,p2]
   have:=h.cnt
   omega
 ·exact h.more (Nat.le_succ _)
theorem Qan (h:Zd c g n m) {i:Qp} {v:Zj} (hv:WOK c g i v):Yh v.gs (QF c g m v):=by
 unfold QF
 split
 ·exact hv.tal
 ·exact hv.tal.put _ _
theorem Y3 (h:Zd c g n m) {i:Qp} {s:Nat} (hn:Z2 m.q=some (i,s)):∃ v,Qe m.wt i=some v/\ZD m i=v/\WOK c g i v:=by
 obtain ⟨l,hl⟩:=QfP hn
 have:(Qe m.wt i).isSome=true:=(h.ids i).2 (by rw [hl];exact List.mem_cons_self)
 obtain ⟨v,hv⟩:=Option.isSome_iff_exists.1 this
 exact ⟨v,hv,by rw [ZD,hv];rfl,h.w i v hv⟩
theorem WOK.idB {i:Qp} {v:Zj} (h:WOK c g i v):idB i.ses i.seq=true:=by
 rw [<- h.id]
 exact (YR h.f).1
theorem Qhu (h:Zd c g n m) {i:Qp} {s:Nat} (hn:Z2 m.q=some (i,s)) (y:Bool):Zd c g n (ZY m i y s)/\(ZY m i y s).q.l.length+1=m.q.l.length:=by
 obtain ⟨l,hl⟩:=QfP hn
 have hlen:m.q.l.length=l.length+1:=by
  have:=congrArg List.length hl
  simpa [XV] using this
 have hd:(YV m.q).l.length+1=m.q.l.length:=by
  show (m.q.l.drop 1).length+1=_
  rw [List.length_drop];omega
 have hnd:(XV m.q).Nodup:=h.q.nd
 rw [hl,List.nodup_cons] at hnd
 refine ⟨{ h with q:=QnH h.q,qg:=h.qg,ids:=fun j=>?_,w:=fun j u hu=>?_,dis:=fun j hj=>?_,cnt:=?_,dk:=fun j hj=>?_ },hd⟩
 ·show (Qe (Zc m.wt i) j).isSome=true ↔ j ∈ XV (YV m.q)
  rw [QmY,hl,List.drop_one,List.tail_cons,ZF]
  have hj:=h.ids j
  rw [hl,List.mem_cons] at hj
  by_cases e:j=i
  ·subst e;rw [if_pos rfl];simp [hnd.1]
  ·rw [if_neg e,hj];simp [e]
 ·have hu':Qe (Zc m.wt i) j=some u:=hu
  rw [ZF] at hu'
  by_cases e:j=i
  ·rw [if_pos e] at hu';cases hu'
  ·rw [if_neg e] at hu';exact h.w j u hu'
 ·show Qe (Zc m.wt i) j=none
  have hj':(Qe (Qs m.dc i (y,s)) j).isSome=true:=hj
  rw [ZF]
  by_cases e:j=i
  ·rw [if_pos e]
  ·rw [if_neg e]
   rw [Qw,if_neg e] at hj'
   exact h.dis j hj'
 ·show m.s.last+(YV m.q).l.length<=n
  have:=h.cnt
  omega
 ·have hj':(Qe (Qs m.dc i (y,s)) j).isSome=true:=hj
  by_cases e:j=i
  ·obtain ⟨v,_,_,hok⟩:=Y3 h hn
   rw [e];exact hok.idB
  ·rw [Qw,if_neg e] at hj'
   exact h.dk j hj'
theorem Qlw (h:Zd c g n m) (hc:m.s.last+m.q.l.length+1<=n) (final:Nat) {ws:List Wr} (hw:Yv ws=true) (h6:ws.length<=6):Zd c g n (Zq m final ws)/\(Zq m final ws).q=m.q/\(Zq m final ws).s.last=m.s.last+1:=by
 have ha:QH m.s (m.s.last+1) ws=⟨Zx (m.s.last+1) m.s.ks ws,m.s.last+1,m.s.low⟩:=by
  rw [QH,if_neg (by omega),if_pos hw]
 have h1:=Vy h.s (m.s.last+1) ws
 have h2:=Qak h.s (m.s.last+1) ws
 have h3:=h.its
 have h4:=h.a
 have h5:=h.s.low
 unfold Zq
 simp only
 split
 ·rename_i hb
  rw [ha] at h1 h2 hb ⊢
  simp only at h1 h2 hb ⊢
  have hco:Xy ⟨Zx (m.s.last+1) m.s.ks ws,m.s.last+1,m.s.low⟩ (m.s.last+1-8)=true:=by
   unfold Xy
   simp only [Bool.and_eq_true,decide_eq_true_eq]
   omega
  have hcs:Zv ⟨Zx (m.s.last+1) m.s.ks ws,m.s.last+1,m.s.low⟩ (m.s.last+1-8)=⟨Xk (Zx (m.s.last+1) m.s.ks ws) (m.s.last+1-8),m.s.last+1,m.s.last+1-8⟩:=by
   rw [Zv,if_pos hco]
  have h7:=Qem h1 (m.s.last+1-8)
  have h8:=QdM h1 (m.s.last+1-8)
  rw [hcs] at h8
  rw [hcs]
  refine ⟨{ h with s:=h8,a:=?_,cnt:=?_,its:=?_ },by first | rfl | trivial,by first | rfl | trivial⟩
  ·show ((m.a ++ [final]).drop (m.s.last+1-8-m.s.low)).length+(m.s.last+1-8)=m.s.last+1+1
   rw [List.length_drop,List.length_append,List.length_singleton]
   omega
  ·show m.s.last+1+m.q.l.length<=n
   omega
  ·show (Qq (Xk (Zx (m.s.last+1) m.s.ks ws) (m.s.last+1-8))).length<=6 * (m.s.last+1)
   simp only at h7
   omega
 ·rename_i hb
  rw [ha] at h1 h2 ⊢
  simp only at h1 h2 ⊢
  refine ⟨{ h with s:=h1,a:=?_,cnt:=?_,its:=?_ },by first | rfl | trivial,by first | rfl | trivial⟩
  ·show (m.a ++ [final]).length+m.s.low=m.s.last+1+1
   rw [List.length_append,List.length_singleton]
   omega
  ·show m.s.last+1+m.q.l.length<=n
   omega
  ·show (Qq (Zx (m.s.last+1) m.s.ks ws)).length<=6 * (m.s.last+1)
   omega
theorem XW (h:Zd c g n m):Zd c g n (ZZ c g m).2.1/\((ZZ c g m).1=true->(ZZ c g m).2.1.q.l.length<m.q.l.length):=by
 unfold ZZ
 split
 ·exact ⟨h,fun e=>by cases e⟩
 ·rename_i i final hn
  obtain ⟨v,hv,hw,hok⟩:=Y3 h hn
  simp only
  rw [hw]
  split
  ·obtain ⟨hd,hlen⟩:=Qhu h hn (Zk v.gs.length (QF c g m v))
   split
   ·obtain ⟨h1,h2,h3⟩:=Qlw hd (by have:=h.cnt;show m.s.last+_+1<=n;omega) final (J4 (c:=c) (g:=g) hok.f) (Ux hok.f)
    exact ⟨h1,fun _=>by show (Zq _ _ _).q.l.length<_;rw [h2];omega⟩
   ·exact ⟨hd,fun _=>by show (ZY _ _ _ _).q.l.length<_;omega⟩
  ·refine ⟨?_,fun e=>by cases e⟩
   have hs:(Qe m.wt i).isSome=true:=by rw [hv];rfl
   exact h.setW hs { hok with tal:=Qan h hok }
theorem QiU:∀ (k:Nat) {m:Qk},Zd c g n m->Zd c g n (ZU c g k m).1
 | 0,_,h=>h
 | k+1,m,h=>by
  unfold ZU
  simp only
  have h1:=XW h
  split
  ·exact QiU k h1.1
  ·exact h1.1
end
open Go.RowKit Go.Shelf Go.Maps
section
variable {w w':World} {B p:Nat} {c:Ql} {g:Int} {lab:Nat->QL} {x:Qk} {E:Q9} {ov:Value} {O:Nat->Prop} {l:QL}
theorem Qo.cs (h:Qo w B p c g lab x E ov) :
  w.cell? ⟨p,0,none⟩=some (.slice E.A c.reps.length E.ca)/\w.cell? ⟨p,1,none⟩=some (.slice E.A' c.bnds.length E.cb)/\w.cell? ⟨p,2,none⟩=some (.int .i64 g)/\w.cell? ⟨p,3,none⟩=some (.pointer (some ⟨E.qp,0,none⟩))/\w.cell? ⟨p,4,none⟩=some (.pointer (some ⟨E.sp,0,none⟩)) /\
  w.cell? ⟨p,5,none⟩=some (.map (some E.mw))/\w.cell? ⟨p,6,none⟩=some (.map (some E.md))/\w.cell? ⟨p,7,none⟩=some (.map (some E.ms))/\w.cell? ⟨p,8,none⟩=some (.map (some E.mv))/\w.cell? ⟨p,9,none⟩=some E.av/\w.cell? ⟨p,10,none⟩=some E.lv/\w.cell? ⟨p,11,none⟩=some ov:=by
 refine ⟨?_,?_,?_,?_,?_,?_,?_,?_,?_,?_,?_,?_⟩ <;> (rw [cell_of_row w p _ _ _ _ h.blk];rfl)
structure Qm0 (l:QL) (w:World) (B:Nat) (c:Ql) (lab:Nat->QL) (x:Qk) (E:Q9):Prop where
 cfg:Z9 w c E.A E.A'
 oA:Ko B c.reps.length E.A
 oA':Ko B c.bnds.length E.A'
 q:l ≠ .q->JZ w E.qB E.qp x.q (fun k=>lab k = .q)
 s:l ≠ .s->QW w E.sB E.sp E.N (fun k=>lab k = .s) x.s
 hw:l ≠ .mw->Za Tryz.prog 34 Y6 JE w E.mw E.nw E.kw
 hd:l ≠ .md->Za Tryz.prog 34 Y6 JE w E.md E.nd E.kd
 hs:l ≠ .ms->Za Tryz.prog 179 Y7 YY w E.ms E.ns E.ks
 hv:l ≠ .mv->Za Tryz.prog 179 Y7 YY w E.mv E.nv E.kv
 lmw:lab E.mw = .mw
 lmd:lab E.md = .md
 lms:lab E.ms = .ms
 lmv:lab E.mv = .mv
 kw:∀ i,Qe E.kw i=(Qe x.wt i).map fun _=>.pointer (some ⟨E.pp i,0,none⟩)
 kd:∀ i,Qe E.kd i=(Qe x.dc i).map Qe8
 ks:∀ i,Qe E.ks i=(Qe x.st i).map fun s=>.int .u64 (s:Int)
 kv:∀ i,Qe E.kv i=(Qe x.vo i).map Value.bool
 wt:∀ i v,l ≠ .one i->Qe x.wt i=some v->Kx w B (E.pp i) (fun k=>lab k = .one i) v
 a:l ≠ .at_->QC w B 39 E.av (Jv x.a)
 la:∀ b,E.av.ownBlock=some b->lab b = .at_
 log:l ≠ .log->w.ownsRow B 41 10 E.lv E.nl E.cl
 ll:∀ b,E.lv.ownBlock=some b->lab b = .log
 lt:∀ k,lab k ≠ .no->B<=k/\k<w.heap.size
 size:B<=w.heap.size
theorem Xr {k:Nat} (h:k<w.heap.size):relab lab w w' l k=lab k:=if_neg (by omega)
theorem Qo.rest (h : Qo w B p c g lab x E ov) (ho : Qg O w w') (hO : ∀ k, O k -> lab k = l) (hl : l ≠ .no) (hm : l ≠ .m) :
    Qm0 l w' B c (relab lab w w' l) x E /\ w'.heap[p]? = some (.cells (XN c g E ov) 107 (0, 0)) /\ relab lab w w' l p = .m := by
  have hlt : ∀ k, lab k ≠ .no -> k < w.heap.size := fun k hk => (h.lt k hk).2
  have hB := h.hB
  have hOB : ∀ k, O k -> B <= k := fun k e => (h.lt k (by rw [hO k e]; exact hl)).1
  have hne : ∀ {k : Nat} {l' : QL}, lab k = l' -> l ≠ l' -> ¬ O k := fun e hl' ok => hl' ((hO _ ok).symm.trans e)
  have hat : ∀ {k : Nat} {l' : QL}, lab k = l' -> l' ≠ .no -> relab lab w w' l k = l' := fun {k l'} e h1 => by
    rw [Xr (hlt k (by rw [e]; exact h1))]; exact e
  refine ⟨?_, ho.obj h.blk (hne h.lm hm), hat h.lm (by decide)⟩
  exact {
    cfg := QiR h.cfg ho (h.oA.not hOB) (h.oA'.not hOB), oA := h.oA, oA' := h.oA'
    q := fun n => by rw [UY hlt n (by decide)]; exact h.q.out ho (fun k e => hne e n)
    s := fun n => by rw [UY hlt n (by decide)]; exact h.s.out ho (fun k e => hne e n)
    hw := fun n => h.hw.out ho (hne h.lmw n), hd := fun n => h.hd.out ho (hne h.lmd n), hs := fun n => h.hs.out ho (hne h.lms n), hv := fun n => h.hv.out ho (hne h.lmv n)
    lmw := hat h.lmw (by decide), lmd := hat h.lmd (by decide), lms := hat h.lms (by decide), lmv := hat h.lmv (by decide)
    kw := h.kw, kd := h.kd, ks := h.ks, kv := h.kv
    wt := fun i v n e => by rw [UY hlt n (by intro z; cases z)]; exact (h.wt i v e).out ho (fun k e2 => hne e2 n) hOB
    a := fun n => h.a.out ho (fun b e => hne (h.la b e) n), la := fun b e => hat (h.la b e) (by decide)
    log := fun n => ho.row h.log (fun b e => hne (h.ll b e) n), ll := fun b e => hat (h.ll b e) (by decide)
    lt := fun k hk => by
      have hs := ho.size
      by_cases hkk : w.heap.size <= k /\ k < w'.heap.size
      · exact ⟨by omega, hkk.2⟩
      · rw [relab, if_neg hkk] at hk
        have := h.lt k hk
        exact ⟨this.1, by omega⟩
    size := Nat.le_trans hB ho.size }
theorem Q8.rest {os:List Qv} (hr:Q8 w B lab ov os) (ho:Qg O w w') (hO:∀ k,O k->lab k=l) (hlt:∀ k,lab k ≠ .no->k<w.heap.size) (hm:l ≠ .out):Q8 w' B (relab lab w w' l) ov os :=
 ⟨ho.row hr.1 (fun b e ok=>hm ((hO b ok).symm.trans (hr.2 b e))),fun b e=>by rw [Xr (hlt b (by rw [hr.2 b e];decide))];exact hr.2 b e⟩
theorem Qo.setQ (h:Qo w B p c g lab x E ov) {q':QD} (ho:Qg (fun k=>lab k = .q) w w') (hq:JZ w' E.qB E.qp q' (ext (fun k=>lab k = .q) w w')):Qo w' B p c g (relab lab w w' .q) { x with q:=q' } E ov:=by
 obtain ⟨R,hb,hp⟩:=h.rest ho (fun k e=>e) (l:=.q) (by decide) (by decide)
 exact { cfg:=R.cfg,oA:=R.oA,oA':=R.oA',q:=by rw [Qdr (fun k hk=>(h.lt k hk).2) (by decide)];exact hq,s:=R.s (by decide),hw:=R.hw (by decide),hd:=R.hd (by decide),hs:=R.hs (by decide),hv:=R.hv (by decide),lmw:=R.lmw,lmd:=R.lmd,lms:=R.lms,lmv:=R.lmv,kw:=R.kw,kd:=R.kd,ks:=R.ks,kv:=R.kv,wt:=fun i v e=>R.wt i v (by intro z;cases z) e,a:=R.a (by decide),la:=R.la,log:=R.log (by decide),ll:=R.ll,lt:=R.lt,blk:=hb,lm:=hp }
theorem Qo.setS (h:Qo w B p c g lab x E ov) {s':QR} {N':Nat} (ho:Qg (fun k=>lab k = .s) w w') (hq:QW w' E.sB E.sp N' (ext (fun k=>lab k = .s) w w') s'):Qo w' B p c g (relab lab w w' .s) { x with s:=s' } { E with N:=N' } ov:=by
 obtain ⟨R,hb,hp⟩:=h.rest ho (fun k e=>e) (l:=.s) (by decide) (by decide)
 exact { cfg:=R.cfg,oA:=R.oA,oA':=R.oA',s:=by rw [Qdr (fun k hk=>(h.lt k hk).2) (by decide)];exact hq,q:=R.q (by decide),hw:=R.hw (by decide),hd:=R.hd (by decide),hs:=R.hs (by decide),hv:=R.hv (by decide),lmw:=R.lmw,lmd:=R.lmd,lms:=R.lms,lmv:=R.lmv,kw:=R.kw,kd:=R.kd,ks:=R.ks,kv:=R.kv,wt:=fun i v e=>R.wt i v (by intro z;cases z) e,a:=R.a (by decide),la:=R.la,log:=R.log (by decide),ll:=R.ll,lt:=R.lt,blk:=hb,lm:=hp }
theorem Qo.setOne (h:Qo w B p c g lab x E ov) {i:Qp} {v u:Zj} (hi:Qe x.wt i=some u) (ho:Qg (fun k=>lab k = .one i) w w') (hv:Kx w' B (E.pp i) (ext (fun k=>lab k = .one i) w w') v) :
  Qo w' B p c g (relab lab w w' (.one i)) { x with wt:=Qs x.wt i v } E ov:=by
 obtain ⟨R,hb,hp⟩:=h.rest ho (fun k e=>e) (l:=.one i) (by intro z;cases z) (by intro z;cases z)
 refine { cfg:=R.cfg,oA:=R.oA,oA':=R.oA',q:=R.q (by intro z;cases z),s:=R.s (by intro z;cases z),hw:=R.hw (by intro z;cases z),hd:=R.hd (by intro z;cases z),hs:=R.hs (by intro z;cases z),hv:=R.hv (by intro z;cases z),lmw:=R.lmw,lmd:=R.lmd,lms:=R.lms,lmv:=R.lmv,kw:=fun j=>?_,kd:=R.kd,ks:=R.ks,kv:=R.kv,wt:=fun j v' e=>?_,a:=R.a (by intro z;cases z),la:=R.la,log:=R.log (by intro z;cases z),ll:=R.ll,lt:=R.lt,blk:=hb,lm:=hp }
 ·show _=(Qe (Qs x.wt i v) j).map _
  rw [Qw,R.kw]
  by_cases e:j=i
  ·subst e;rw [if_pos rfl,hi];rfl
  ·rw [if_neg e]
 ·have e':Qe (Qs x.wt i v) j=some v':=e
  rw [Qw] at e'
  by_cases e2:j=i
  ·rw [if_pos e2] at e';cases e'
   subst e2
   rw [Qdr (fun k hk=>(h.lt k hk).2) (by intro z;cases z)]
   exact hv
  ·rw [if_neg e2] at e'
   exact R.wt j v' (fun z=>e2 (by cases z;rfl)) e'
theorem Qo.addOne (h:Qo w B p c g lab x E ov) {i:Qp} {v:Zj} {q:Nat} (ht:w.mapTurned w' E.mw) (hm:Za Tryz.prog 34 Y6 JE w' E.mw (E.nw+1) (Qs E.kw i (.pointer (some ⟨q,0,none⟩)))) (hv:Kx w B q (fun k=>lab k = .one i) v) :
  Qo w' B p c g (relab lab w w' .mw) { x with wt:=Qs x.wt i v } { E with nw:=E.nw+1,kw:=Qs E.kw i (.pointer (some ⟨q,0,none⟩)),pp:=fun j=>if j=i then q else E.pp j } ov:=by
 have ho:=Qg.of_turned ht
 obtain ⟨R,hb,hp⟩:=h.rest ho (fun k e=>by rw [e];exact h.lmw) (l:=.mw) (by decide) (by decide)
 refine { cfg:=R.cfg,oA:=R.oA,oA':=R.oA',q:=R.q (by decide),s:=R.s (by decide),hw:=hm,hd:=R.hd (by decide),hs:=R.hs (by decide),hv:=R.hv (by decide),lmw:=R.lmw,lmd:=R.lmd,lms:=R.lms,lmv:=R.lmv,kw:=fun j=>?_,kd:=R.kd,ks:=R.ks,kv:=R.kv,wt:=fun j v' e=>?_,a:=R.a (by decide),la:=R.la,log:=R.log (by decide),ll:=R.ll,lt:=R.lt,blk:=hb,lm:=hp }
 ·show Qe (Qs E.kw i _) j=(Qe (Qs x.wt i v) j).map fun _=>.pointer (some ⟨if j=i then q else E.pp j,0,none⟩)
  rw [Qw,Qw,R.kw]
  by_cases e:j=i
  ·simp [e]
  ·simp [e]
 ·have e':Qe (Qs x.wt i v) j=some v':=e
  rw [Qw] at e'
  show Kx w' B (if j=i then q else E.pp j) _ v'
  by_cases e2:j=i
  ·rw [if_pos e2] at e';cases e'
   subst e2
   rw [if_pos rfl,UY (fun k hk=>(h.lt k hk).2) (by intro z;cases z) (by intro z;cases z)]
   exact hv.out ho (fun k e ok=>by rw [ok,h.lmw] at e;cases e) (fun k e=>by rw [e];exact (h.lt _ (by rw [h.lmw];decide)).1)
  ·rw [if_neg e2] at e' ⊢
   exact R.wt j v' (by intro z;cases z) e'
theorem Qo.delOne (h:Qo w B p c g lab x E ov) {i:Qp} (ht:w.mapTurned w' E.mw) (hm:Za Tryz.prog 34 Y6 JE w' E.mw E.nw (Zc E.kw i)) :
  Qo w' B p c g (relab lab w w' .mw) { x with wt:=Zc x.wt i } { E with kw:=Zc E.kw i } ov:=by
 have ho:=Qg.of_turned ht
 obtain ⟨R,hb,hp⟩:=h.rest ho (fun k e=>by rw [e];exact h.lmw) (l:=.mw) (by decide) (by decide)
 refine { cfg:=R.cfg,oA:=R.oA,oA':=R.oA',q:=R.q (by decide),s:=R.s (by decide),hw:=hm,hd:=R.hd (by decide),hs:=R.hs (by decide),hv:=R.hv (by decide),lmw:=R.lmw,lmd:=R.lmd,lms:=R.lms,lmv:=R.lmv,kw:=fun j=>?_,kd:=R.kd,ks:=R.ks,kv:=R.kv,wt:=fun j v' e=>?_,a:=R.a (by decide),la:=R.la,log:=R.log (by decide),ll:=R.ll,lt:=R.lt,blk:=hb,lm:=hp }
 ·show Qe (Zc E.kw i) j=(Qe (Zc x.wt i) j).map _
  rw [ZF,ZF,R.kw]
  by_cases e:j=i
  ·simp [e]
  ·simp [e]
 ·have e':Qe (Zc x.wt i) j=some v':=e
  rw [ZF] at e'
  by_cases e2:j=i
  ·rw [if_pos e2] at e';cases e'
  ·rw [if_neg e2] at e'
   exact R.wt j v' (by intro z;cases z) e'
theorem Qo.addDec (h:Qo w B p c g lab x E ov) {i:Qp} {d:Bool × Nat} (ht:w.mapTurned w' E.md) (hm:Za Tryz.prog 34 Y6 JE w' E.md (E.nd+1) (Qs E.kd i (Qe8 d))) :
  Qo w' B p c g (relab lab w w' .md) { x with dc:=Qs x.dc i d } { E with nd:=E.nd+1,kd:=Qs E.kd i (Qe8 d) } ov:=by
 have ho:=Qg.of_turned ht
 obtain ⟨R,hb,hp⟩:=h.rest ho (fun k e=>by rw [e];exact h.lmd) (l:=.md) (by decide) (by decide)
 refine { cfg:=R.cfg,oA:=R.oA,oA':=R.oA',q:=R.q (by decide),s:=R.s (by decide),hw:=R.hw (by decide),hd:=hm,hs:=R.hs (by decide),hv:=R.hv (by decide),lmw:=R.lmw,lmd:=R.lmd,lms:=R.lms,lmv:=R.lmv,kw:=R.kw,kd:=fun j=>?_,ks:=R.ks,kv:=R.kv,wt:=fun j v' e=>R.wt j v' (by intro z;cases z) e,a:=R.a (by decide),la:=R.la,log:=R.log (by decide),ll:=R.ll,lt:=R.lt,blk:=hb,lm:=hp }
 show Qe (Qs E.kd i _) j=(Qe (Qs x.dc i d) j).map _
 rw [Qw,Qw,R.kd]
 by_cases e:j=i
 ·simp [e]
 ·simp [e]
theorem Qo.addSt (h:Qo w B p c g lab x E ov) {i:ZO} {s:Nat} (ht:w.mapTurned w' E.ms) (hm:Za Tryz.prog 179 Y7 YY w' E.ms (E.ns+1) (Qs E.ks i (.int .u64 (s:Int)))) :
  Qo w' B p c g (relab lab w w' .ms) { x with st:=Qs x.st i s } { E with ns:=E.ns+1,ks:=Qs E.ks i (.int .u64 (s:Int)) } ov:=by
 have ho:=Qg.of_turned ht
 obtain ⟨R,hb,hp⟩:=h.rest ho (fun k e=>by rw [e];exact h.lms) (l:=.ms) (by decide) (by decide)
 refine { cfg:=R.cfg,oA:=R.oA,oA':=R.oA',q:=R.q (by decide),s:=R.s (by decide),hw:=R.hw (by decide),hd:=R.hd (by decide),hs:=hm,hv:=R.hv (by decide),lmw:=R.lmw,lmd:=R.lmd,lms:=R.lms,lmv:=R.lmv,kw:=R.kw,kd:=R.kd,ks:=fun j=>?_,kv:=R.kv,wt:=fun j v' e=>R.wt j v' (by intro z;cases z) e,a:=R.a (by decide),la:=R.la,log:=R.log (by decide),ll:=R.ll,lt:=R.lt,blk:=hb,lm:=hp }
 show Qe (Qs E.ks i _) j=(Qe (Qs x.st i s) j).map _
 rw [Qw,Qw,R.ks]
 by_cases e:j=i
 ·simp [e]
 ·simp [e]
theorem Qo.delSt (h:Qo w B p c g lab x E ov) {i:ZO} (ht:w.mapTurned w' E.ms) (hm:Za Tryz.prog 179 Y7 YY w' E.ms E.ns (Zc E.ks i)) :
  Qo w' B p c g (relab lab w w' .ms) { x with st:=Zc x.st i } { E with ks:=Zc E.ks i } ov:=by
 have ho:=Qg.of_turned ht
 obtain ⟨R,hb,hp⟩:=h.rest ho (fun k e=>by rw [e];exact h.lms) (l:=.ms) (by decide) (by decide)
 refine { cfg:=R.cfg,oA:=R.oA,oA':=R.oA',q:=R.q (by decide),s:=R.s (by decide),hw:=R.hw (by decide),hd:=R.hd (by decide),hs:=hm,hv:=R.hv (by decide),lmw:=R.lmw,lmd:=R.lmd,lms:=R.lms,lmv:=R.lmv,kw:=R.kw,kd:=R.kd,ks:=fun j=>?_,kv:=R.kv,wt:=fun j v' e=>R.wt j v' (by intro z;cases z) e,a:=R.a (by decide),la:=R.la,log:=R.log (by decide),ll:=R.ll,lt:=R.lt,blk:=hb,lm:=hp }
 show Qe (Zc E.ks i) j=(Qe (Zc x.st i) j).map _
 rw [ZF,ZF,R.ks]
 by_cases e:j=i
 ·simp [e]
 ·simp [e]
theorem Qo.addVo (h:Qo w B p c g lab x E ov) {i:ZO} {y:Bool} (ht:w.mapTurned w' E.mv) (hm:Za Tryz.prog 179 Y7 YY w' E.mv (E.nv+1) (Qs E.kv i (.bool y))) :
  Qo w' B p c g (relab lab w w' .mv) { x with vo:=Qs x.vo i y } { E with nv:=E.nv+1,kv:=Qs E.kv i (.bool y) } ov:=by
 have ho:=Qg.of_turned ht
 obtain ⟨R,hb,hp⟩:=h.rest ho (fun k e=>by rw [e];exact h.lmv) (l:=.mv) (by decide) (by decide)
 refine { cfg:=R.cfg,oA:=R.oA,oA':=R.oA',q:=R.q (by decide),s:=R.s (by decide),hw:=R.hw (by decide),hd:=R.hd (by decide),hs:=R.hs (by decide),hv:=hm,lmw:=R.lmw,lmd:=R.lmd,lms:=R.lms,lmv:=R.lmv,kw:=R.kw,kd:=R.kd,ks:=R.ks,kv:=fun j=>?_,wt:=fun j v' e=>R.wt j v' (by intro z;cases z) e,a:=R.a (by decide),la:=R.la,log:=R.log (by decide),ll:=R.ll,lt:=R.lt,blk:=hb,lm:=hp }
 show Qe (Qs E.kv i _) j=(Qe (Qs x.vo i y) j).map _
 rw [Qw,Qw,R.kv]
 by_cases e:j=i
 ·simp [e]
 ·simp [e]
theorem Qo.delVo (h:Qo w B p c g lab x E ov) {i:ZO} (ht:w.mapTurned w' E.mv) (hm:Za Tryz.prog 179 Y7 YY w' E.mv E.nv (Zc E.kv i)) :
  Qo w' B p c g (relab lab w w' .mv) { x with vo:=Zc x.vo i } { E with kv:=Zc E.kv i } ov:=by
 have ho:=Qg.of_turned ht
 obtain ⟨R,hb,hp⟩:=h.rest ho (fun k e=>by rw [e];exact h.lmv) (l:=.mv) (by decide) (by decide)
 refine { cfg:=R.cfg,oA:=R.oA,oA':=R.oA',q:=R.q (by decide),s:=R.s (by decide),hw:=R.hw (by decide),hd:=R.hd (by decide),hs:=R.hs (by decide),hv:=hm,lmw:=R.lmw,lmd:=R.lmd,lms:=R.lms,lmv:=R.lmv,kw:=R.kw,kd:=R.kd,ks:=R.ks,kv:=fun j=>?_,wt:=fun j v' e=>R.wt j v' (by intro z;cases z) e,a:=R.a (by decide),la:=R.la,log:=R.log (by decide),ll:=R.ll,lt:=R.lt,blk:=hb,lm:=hp }
 show Qe (Zc E.kv i) j=(Qe (Zc x.vo i) j).map _
 rw [ZF,ZF,R.kv]
 by_cases e:j=i
 ·simp [e]
 ·simp [e]
theorem Qo.vote (h : Qo w B p c g lab x E ov) {i : Qp} {v : Zj} {A A' Ag : Option Addr} {ca cb cg tp tg tb tc : Nat} (hi : Qe x.wt i = some v) (hI : QaU w B (E.pp i) (fun k => lab k = .one i) v A A' Ag ca cb cg tp tg tb tc) {vs : List (Int × Bool)}
    (ht : YX w' B tp tg tb tc v.gs vs) (hg : w.grownBy w' (some tb)) : Qo w' B p c g (relab lab w w' (.one i)) { x with wt := Qs x.wt i { v with vs := vs } } E ov /\ Qg (fun k => k = tb) w w' := by
  have ho : Qg (fun k => k = tb) w w' := Qg.of_grown hg (fun k e => by cases e; rfl)
  have ho1 : Qg (fun k => lab k = .one i) w w' := ho.mono (fun k e => by rw [e]; exact hI.ltb)
  have hBO : ∀ k, k = tb -> B <= k := fun k e => by rw [e]; exact hI.tal.hb
  have hpb : E.pp i ≠ tb := fun e => by
    obtain ⟨es, clock, hb, _⟩ := hI.tal.own
    have h1 := hI.blk
    rw [e, hb] at h1
    cases h1
  have hgb : ∀ a, Ag = some a -> ¬ a.block = tb \/ v.gs.length = 0 := fun a ea => by
    by_cases hz : v.gs.length = 0
    · exact .inr hz
    · left
      intro e
      obtain ⟨b', off', e1, hc⟩ := hI.gr 0 (by omega)
      rw [ea] at e1
      cases e1
      obtain ⟨es, clock, hb, _⟩ := hI.tal.own
      simp only at e
      subst e
      simp [World.cell?, hb] at hc
  refine ⟨h.setOne hi ho1 ⟨A, A', Ag, ca, cb, cg, tp, tg, tb, tc, ?_⟩, ho⟩
  exact { blk := ho.obj hI.blk hpb, tx := (by
            obtain ⟨es, clock, hb, _⟩ := hI.tal.own
            exact VH hI.tx ho (Qeh hI.tx hb).1 (Qeh hI.tx hb).2), oA := hI.oA.mono (fun k e => .inl e), oA' := hI.oA'.mono (fun k e => .inl e), gr := fun j hj => (by
            obtain ⟨b', off', e1, hc⟩ := hI.gr j hj
            refine ⟨b', off', e1, ho.cell hc fun e => ?_⟩
            rcases hgb _ e1 with q | q
            · exact q e
            · have hj' : j < v.gs.length := hj
              omega), lg := fun a e => .inl (hI.lg a e), tal := ht, lp := .inl hI.lp, ltp := .inl hI.ltp, ltg := .inl hI.ltg, ltb := .inl hI.ltb }
end
theorem YX.low {w:World} {base base' p g b cap:Nat} {gs:List Int} {vs:List (Int × Bool)} (h:YX w base p g b cap gs vs) (hb:base'<=base):YX w base' p g b cap gs vs :=
 ⟨h.c0,h.c1,h.ints,h.own,Nat.le_trans hb h.hp,Nat.le_trans hb h.hg,Nat.le_trans hb h.hb,h.n1,h.n2⟩
def Z1 (lab:Nat->QL) (b lo hi:Nat) (i:Qp):Nat->QL:=fun k=>if k=b \/ (lo<=k/\k<hi) then .one i else lab k
theorem Qo.addLab {w : World} {B p : Nat} {c : Ql} {g : Int} {lab : Nat -> QL} {x : Qk} {E : Q9} {ov : Value} (h : Qo w B p c g lab x E ov) {b lo hi : Nat} {i : Qp} (hb : lab b = .no /\ B <= b /\ b < w.heap.size) (hr : ∀ k, lo <= k -> k < hi -> lab k = .no /\ B <= k /\ k < w.heap.size) (hi0 : Qe x.wt i = none) : Qo w B p c g (Z1 lab b lo hi i) x E ov := by
  have hno : ∀ k, k = b \/ (lo <= k /\ k < hi) -> lab k = .no /\ B <= k /\ k < w.heap.size := fun k hk => hk.elim (fun e => by rw [e]; exact hb) (fun e => hr k e.1 e.2)
  have hat : ∀ {k : Nat} {l : QL}, lab k = l -> l ≠ .no -> Z1 lab b lo hi i k = l := fun {k l} e hl => by
    rw [Z1, if_neg (fun q => hl (by rw [<- e]; exact (hno k q).1))]; exact e
  have hfun : ∀ {l : QL}, l ≠ .no -> l ≠ .one i -> (fun k => Z1 lab b lo hi i k = l) = (fun k => lab k = l) := fun {l} h1 h2 => by
    funext k
    apply propext
    unfold Z1
    by_cases q : k = b \/ (lo <= k /\ k < hi)
    · rw [if_pos q]
      refine ⟨fun e => absurd e.symm h2, fun e => ?_⟩
      rw [(hno k q).1] at e
      exact absurd e.symm h1
    · rw [if_neg q]
  exact { h with
    q := by rw [hfun (by decide) (by intro z; cases z)]; exact h.q
    s := by rw [hfun (by decide) (by intro z; cases z)]; exact h.s
    lmw := hat h.lmw (by decide), lmd := hat h.lmd (by decide), lms := hat h.lms (by decide), lmv := hat h.lmv (by decide)
    wt := fun j v e => by
      have hj : (QL.one j) ≠ .one i := fun z => by
        cases z
        rw [hi0] at e; cases e
      rw [hfun (by intro z; cases z) hj]
      exact h.wt j v e
    la := fun k e => hat (h.la k e) (by decide), ll := fun k e => hat (h.ll k e) (by decide)
    lt := fun k hk => by
      unfold Z1 at hk
      by_cases q : k = b \/ (lo <= k /\ k < hi)
      · exact (hno k q).2
      · rw [if_neg q] at hk; exact h.lt k hk
    lm := hat h.lm (by decide) }
theorem Q8.addLab {w:World} {B:Nat} {lab:Nat->QL} {ov:Value} {os:List Qv} (h:Q8 w B lab ov os) {b lo hi:Nat} {i:Qp} (hb:lab b = .no) (hr:∀ k,lo<=k->k<hi->lab k = .no):Q8 w B (Z1 lab b lo hi i) ov os :=
 ⟨h.1,fun k e=>by
  have h1:=h.2 k e
  rw [Z1,if_neg (fun q=>q.elim (fun z=>by rw [z,hb] at h1;cases h1) (fun z=>by rw [hr k z.1 z.2] at h1;cases h1))]
  exact h1⟩
structure QE (w w':World) (lab lab':Nat->QL):Prop where
 ext:X9 lab lab' w.heap.size
 out:Qg (fun k=>lab k ≠ .no) w w'
theorem QE.below {w w':World} {lab:Nat->QL} (hb:Below w.heap.size w w'):QE w w' lab lab:=⟨X9.refl _ _,Qg.of_below hb⟩
theorem QE.refl (w:World) (lab:Nat->QL):QE w w lab lab:=QE.below (Below.refl _ _)
theorem QE.trans {a b c:World} {l1 l2 l3:Nat->QL} (h:QE a b l1 l2) (h':QE b c l2 l3):QE a c l1 l3 :=
 ⟨h.ext.trans h'.ext h.out.size,h.out.trans_old h'.out (fun k hk e=>by rw [h.ext k hk] at e;exact e)⟩
theorem QE.relab {w w':World} {lab:Nat->QL} {O:Nat->Prop} {l:QL} (ho:Qg O w w') (hO:∀ k,O k->lab k=l) (hl:l ≠ .no):QE w w' lab (relab lab w w' l) :=
 ⟨K1 lab w w' l,ho.mono fun k e=>by rw [hO k e];exact hl⟩
theorem QE.tell {w w':World} {lab lab':Nat->QL} (he:X9 lab lab' w.heap.size) (ho:Qg (fun k=>lab k = .m \/ lab k = .out) w w'):QE w w' lab lab' :=
 ⟨he,ho.mono fun k e=>by rcases e with e | e <;> (rw [e];decide)⟩
structure Vh (w:World) (B:Nat):Prop where
 t:XT w
 g1:0<B
 g2:1<B
theorem Vh.out {w w':World} {B:Nat} {O:Nat->Prop} (h:Vh w B) (ho:Qg O w w') (hO:∀ k,O k->B<=k):Vh w' B :=
 have h1:¬ O 0:=fun e=>by have:=hO _ e;have:=h.g1;omega
 have h2:¬ O 1:=fun e=>by have:=hO _ e;have:=h.g2;omega
 ⟨⟨fun i hi=>ho.cell (h.t.1 i hi) h1,fun i hi=>⟨ho.cell (h.t.2 i hi).1 h2,ho.cell (h.t.2 i hi).2 h2⟩⟩,h.g1,h.g2⟩
structure QcD (n:Nat) (x:Qk) (E:Q9):Prop where
 nw:E.nw<=n
 nd:E.nd+x.q.l.length<=n
 ns:E.ns<=n
 nv:E.nv<=n
 nN:E.N<=6 * x.s.last
 nl:E.nl<=n
structure ZW (w:World) (B p:Nat) (c:Ql) (g:Int) (n:Nat) (lab:Nat->QL) (x:Qk) (E:Q9) (ov:Value) (os:List Qv):Prop where
 m:Qo w B p c g lab x E ov
 o:Q8 w B lab ov os
 k:Zd c g n x
 cn:QcD n x E
 tb:Vh w B
theorem ZW.later {w w':World} {B p n:Nat} {c:Ql} {g:Int} {lab:Nat->QL} {x:Qk} {E:Q9} {ov:Value} {os:List Qv} (h:ZW w B p c g n lab x E ov os) (hb:Below w.heap.size w w'):ZW w' B p c g n lab x E ov os :=
 { h with m:=h.m.later hb,o:=⟨Qi h.o.1 hb,h.o.2⟩,tb:=h.tb.out (O:=fun _=>False) (Qg.of_below hb) (fun _ e=>e.elim) }
theorem ZW.out {w w':World} {B p n:Nat} {c:Ql} {g:Int} {lab:Nat->QL} {x:Qk} {E:Q9} {ov:Value} {os:List Qv} {O:Nat->Prop} (h:ZW w B p c g n lab x E ov os) (ho:Qg O w w') (hL:∀ k,lab k ≠ .no->¬ O k) (hO:∀ k,O k->B<=k):ZW w' B p c g n lab x E ov os :=
 { h with m:=h.m.out ho hL hO,o:=⟨ho.row h.o.1 (fun b e=>hL b (by rw [h.o.2 b e];decide)),h.o.2⟩,tb:=h.tb.out ho hO }
theorem ZW.more {w:World} {B p n:Nat} {c:Ql} {g:Int} {lab:Nat->QL} {x:Qk} {E:Q9} {ov:Value} {os:List Qv} (h:ZW w B p c g n lab x E ov os) {n':Nat} (hn:n<=n'):ZW w B p c g n' lab x E ov os :=
 { h with k:=h.k.more hn,cn:=⟨Nat.le_trans h.cn.nw hn,Nat.le_trans h.cn.nd hn,Nat.le_trans h.cn.ns hn,Nat.le_trans h.cn.nv hn,h.cn.nN,Nat.le_trans h.cn.nl hn⟩ }
theorem ZW.lt {w:World} {B p n:Nat} {c:Ql} {g:Int} {lab:Nat->QL} {x:Qk} {E:Q9} {ov:Value} {os:List Qv} (h:ZW w B p c g n lab x E ov os):∀ k,lab k ≠ .no->k<w.heap.size:=fun k hk=>(h.m.lt k hk).2
theorem ZW.lb {w:World} {B p n:Nat} {c:Ql} {g:Int} {lab:Nat->QL} {x:Qk} {E:Q9} {ov:Value} {os:List Qv} (h:ZW w B p c g n lab x E ov os):∀ k,lab k ≠ .no->B<=k:=fun k hk=>(h.m.lt k hk).1
def Qao (w w':World) (B p:Nat) (c:Ql) (g:Int) (n:Nat) (lab:Nat->QL) (x:Qk) (os:List Qv):Prop :=
 ∃ lab' E' ov',ZW w' B p c g n lab' x E' ov' os/\QE w w' lab lab'
end Go.Proofs.YtcldpmkhpmlcbaaGreatDoor
