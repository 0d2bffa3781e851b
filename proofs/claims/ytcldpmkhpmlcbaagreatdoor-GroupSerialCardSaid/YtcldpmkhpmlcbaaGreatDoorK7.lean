/- part -/
import Derived.Test.YtcldpmkhpmlcbaaGreatDoorK6
import Derived.Test.YtcldpmkhpmlcbaaGreatDoorJ15
import Derived.Test.YtcldpmkhpmlcbaaGreatDoorK5
import Derived.Test.YtcldpmkhpmlcbaaGreatDoorK3
set_option linter.unusedVariables false
set_option linter.unusedSimpArgs false
namespace Go.Proofs.YtcldpmkhpmlcbaaGreatDoor
open Go.RowKit Go.Maps Go.Shelf Go.Sort
theorem Qpc (w:World) (u v x y z:Value) (t:TypeId):∃ W:World,w.alloc (.cells #[u,v,x,y,z] t)=W/\Below w.heap.size w W/\W.heap.size=w.heap.size+1/\W.heap[w.heap.size]? = some (.cells #[u,v,x,y,z] t (0,0)) :=
 ⟨_,rfl,Qc _ _,by simp,heap_alloc_new w _⟩
theorem Qoi {w:World} {g:Nat} {u v x y z:Value} {t:TypeId} (h:w.heap[g]? = some (.cells #[u,v,x,y,z] t (0,0))):w.cell? ⟨g,0,none⟩=some u/\w.cell? ⟨g,1,none⟩=some v/\w.cell? ⟨g,2,none⟩=some x/\w.cell? ⟨g,3,none⟩=some y/\w.cell? ⟨g,4,none⟩=some z:=by
 refine ⟨?_,?_,?_,?_,?_⟩ <;> (rw [cell_of_row w g _ _ _ _ h];rfl)
def JM (L:List It) (low:Nat) (x:It):Bool:=decide (low<x.num) || (decide (x.num=(KB L x.key low).num) && !decide (x.val.kind=0))
theorem QiA {m:KV} (h:Zg m) (low:Nat) (x:It):JM (Qq m) low x=KC (getK m x.key) low ⟨x.num,x.val⟩:=by rw [JM,KC,QcM h]
def itV (x:It):Value:=.agg #[.string x.key,.int .i64 x.val.kind,.int .u64 (x.val.bits:Int),.string x.val.text,.int .u64 (x.num:Int)]
set_option maxRecDepth 100000 in
set_option maxHeartbeats 4000000 in
theorem QhW {w:World} {B q o:Nat} {R:Nat->Option Value} {O:Nat->Prop} {L:List It} {last low:Nat} (h:X0 w B q o R O L last low) (x:It) (n:Nat) (hn:L.length<=900000) :
  Calls Tryz.prog 103 #[.pointer (some ⟨q,o,none⟩),itV x,.int .u64 (n:Int)] w fun e w'=>e = .returned (.bool (JM L n x))/\Below w.heap.size w w':=by
 obtain ⟨W,eW,HB,hsz,hrow⟩:=Qpc w (.string x.key) (.int .i64 x.val.kind) (.int .u64 (x.val.bits:Int)) (.string x.val.text) (.int .u64 (x.num:Int)) 128
 obtain ⟨y0,y1,y2,y3,y4⟩:=Qoi hrow
 clear hrow
 have HS:=Lib.hid (h.later HB)
 clear h
 obtain ⟨v,hv⟩:∃ v,Hid (KB L x.key n=v):=⟨_,rfl⟩
 have HF:Hid (JM L n x=(decide (n<x.num) || (decide (x.num=v.num) && !decide (x.val.kind=0)))):=by show _=_;rw [JM,hv.out]
 have HSee:Hid (∀ wz,Below W.heap.size W wz->Calls Tryz.prog 48 #[.pointer (some ⟨q,o,none⟩),.string x.key,.int .u64 (n:Int)] wz (KY wz v)):=fun wz hz=>by
  have:=Qcm (HS.out.later hz) x.key n hn
  rw [hv.out] at this
  exact this
 unfold itV
 go_enter Tryz.func103,Tryz.ntmps103
 go_wp2_with (go_at_call 48;refine (HSee.out _ (Below.refl _ _)).mono ?_;rintro e w1 ⟨rfl,hb⟩;obtain ⟨W2,eW2,HB2,hsz2,hrow2⟩:=Qjp w1 (.int .i64 v.val.kind) (.int .u64 (v.val.bits:Int)) (.string v.val.text) 66;replace y0:=keep HB2 (keep hb y0);replace y1:=keep HB2 (keep hb y1);replace y2:=keep HB2 (keep hb y2);replace y3:=keep HB2 (keep hb y3);replace y4:=keep HB2 (keep hb y4);have HW:=Qa (Qa HB hb) HB2;clear hrow2)
 all_goals
  go_ret
  exact ⟨by rw [HF.out];(by_cases q1:n<x.num <;> by_cases q2:x.num=v.num <;> by_cases q3:x.val.kind=0 <;> simp [q1,q2,q3] <;> omega),HW⟩
def Jy (last low n:Nat):Bool:=decide (low<=n) && decide (n<=last)
def Qbv (L:List It) (last low n:Nat):List It:=if Jy last low n then L.filter (JM L n) else L
def UD (last low n:Nat):Nat:=if Jy last low n then n else low
def QgA (L:List It) (last low n:Nat):Int:=if Jy last low n then (L.length:Int)-((L.filter (JM L n)).length:Int) else 0
def QgB (last low n:Nat):Int:=if Jy last low n then 0 else 1
theorem Qc4 {s:QR} (h:Yw s) (n:Nat):Qbv (Qq s.ks) s.last s.low n=Qq (Zv s n).ks:=by
 rw [Qbv,Zv,show Jy s.last s.low n=Xy s n from rfl]
 split
 ·rw [<- QdL h.rises h.falls]
  exact List.filter_congr fun x _=>QiA h.rises n x
 ·rfl
def Qmn (w:World) (B q o:Nat) (R:Nat->Option Value) (O:Nat->Prop) (L:List It) (last low n:Nat) (e:Ending) (w':World):Prop :=
 e = .returned (.tuple #[.int .i64 (QgA L last low n),.int .i64 (QgB last low n)])/\X0 w' B q o R (ext O w w') (Qbv L last low n) last (UD last low n)/\Qg O w w'
theorem QiB {L:List It} {p:It->Bool} {k:Nat} {x:It} (hk:k<L.length) (hx:L.getD k JT=x) (hp:p x=true):(L.take (k+1)).filter p=(L.take k).filter p ++ [x]:=by
 have e:L[k]=x:=by rw [<- hx,List.getD_eq_getElem?_getD,List.getElem?_eq_getElem hk];rfl
 rw [List.take_succ_eq_append_getElem hk,e,List.filter_append,List.filter_cons_of_pos hp];rfl
theorem Qkt {L:List It} {p:It->Bool} {k:Nat} {x:It} (hk:k<L.length) (hx:L.getD k JT=x) (hp:p x=false):(L.take (k+1)).filter p=(L.take k).filter p:=by
 have e:L[k]=x:=by rw [<- hx,List.getD_eq_getElem?_getD,List.getElem?_eq_getElem hk];rfl
 rw [List.take_succ_eq_append_getElem hk,e,List.filter_append,List.filter_cons_of_neg (by rw [hp];decide)]
 simp
set_option maxRecDepth 100000 in
set_option maxHeartbeats 4000000 in
theorem QiC {w:World} {B q o:Nat} {R:Nat->Option Value} {O:Nat->Prop} {L:List It} {last low:Nat} (h:X0 w B q o R O L last low) (hB:B<=w.heap.size) (n:Nat) (hI:L.length<=800000) :
  Calls Tryz.prog 50 #[.pointer (some ⟨q,o,none⟩),.int .u64 (n:Int)] w (Qmn w B q o R O L last low n):=by
 obtain ⟨i0,hi,hz0,hz1,hz2⟩:=info_parts QiI
 have HS:=Lib.hid h
 obtain ⟨v,h⟩:=h
 have c0:=h.c0
 have c1:=h.c1
 have c2:=h.c2
 have f0:=h.fz o
 have f2:=h.fz (o+2)
 by_cases hlo:n<low
 ·have q1:((n:Int)<(low:Int)):=by omega
  have HE:Hid (Jy last low n=false):=by show _=_;rw [Jy,decide_eq_false (by omega)];rfl
  clear hlo h
  go_enter Tryz.func50,Tryz.ntmps50
  go_wp2
  go_ret2
  refine ⟨by rw [QgA,QgB,HE.out];rfl,?_,Qg.refl _ _⟩
  rw [Qbv,UD,HE.out]
  exact HS.out.stay (Below.refl _ _) hB
 ·have q1:¬ ((n:Int)<(low:Int)):=by omega
  by_cases hhi:last<n
  ·have q2:((last:Int)<(n:Int)):=by omega
   have HE:Hid (Jy last low n=false):=by show _=_;rw [Jy,decide_eq_false (p:=n<=last) (by omega),Bool.and_false]
   clear hlo hhi h
   go_enter Tryz.func50,Tryz.ntmps50
   go_wp2
   go_ret2
   refine ⟨by rw [QgA,QgB,HE.out];rfl,?_,Qg.refl _ _⟩
   rw [Qbv,UD,HE.out]
   exact HS.out.stay (Below.refl _ _) hB
  ·have q2:¬ ((last:Int)<(n:Int)):=by omega
   have HE:Hid (Jy last low n=true):=by show _=_;rw [Jy,decide_eq_true (p:=low<=n) (by omega),decide_eq_true (by omega)];rfl
   clear hlo hhi
   obtain ⟨K,cap,hvv,hcap,hK⟩:=QaQ h.row
   have HH:=Lib.hid h
   subst hvv
   clear h
   go_enter Tryz.func50,Tryz.ntmps50
   go_wp2
   go_loopw [6,7] (fun u i wr=>∃ k:Nat,k<=L.length/\i = .int .i64 k/\Hid (wr.ownsRow w.heap.size 128 5 u ((L.take k).filter (JM L n)).length (Zy ((L.take k).filter (JM L n))))/\Below w.heap.size w wr) (fun _ i _=>L.length-(intOf i).toNat)
   case atStart=>exact ⟨0,Nat.zero_le _,rfl,Q7 _ _ _ _,Below.refl _ _⟩
   case round =>
    obtain ⟨k,hk,rfl,HO,hw⟩:=hrel
    obtain ⟨wi,rfl⟩:∃ wi:World,wi=wr:=⟨_,rfl⟩
    replace f0:wi.frozen? ⟨q,o,none⟩=false:=by rw [hw.frozen (p:=⟨q,o,none⟩) (Yc c0)];exact f0
    replace f2:wi.frozen? ⟨q,o+2,none⟩=false:=by rw [hw.frozen (p:=⟨q,o+2,none⟩) (Yc c2)];exact f2
    replace c0:=keep hw c0
    replace c1:=keep hw c1
    replace c2:=keep hw c2
    obtain ⟨T,hT⟩:∃ T,Hid ((L.take k).filter (JM L n)=T):=⟨_,rfl⟩
    rw [hT.out] at HO
    have hTl:T.length<=L.length:=by
     rw [<- hT.out]
     exact Nat.le_trans (List.length_filter_le ..) (by rw [List.length_take];omega)
    obtain ⟨A4,c4,hform,_,_⟩:=QaQ HO.out
    subst hform
    by_cases hlt:k<L.length
    ·obtain ⟨b',off',y,yz,ym,yt,yn,rfl,e0,e1,e2,e3,e4,HY⟩:=(hK.later hw).at' hlt
     have hki:(k:Int)<(L.length:Int):=by omega
     have hnd:=QhW (HS.out.later hw) ⟨y,⟨yz,ym,yt⟩,yn⟩ n (by omega)
     unfold itV at hnd
     cases hc:JM L n ⟨y,⟨yz,ym,yt⟩,yn⟩
     ·rw [hc] at hnd
      have HN:=Lib.hid hnd
      have HF:Hid ((L.take (k+1)).filter (JM L n)=T):=(Qkt hlt HY.out hc).trans hT.out
      clear hnd hc
      go_wp2_with (go_at_call 103;refine HN.out.mono ?_;rintro e w3 ⟨rfl,hb3⟩;have HO3:=Lib.hid (Qi HO.out hb3))
      go_roundw
      case rel =>
       refine ⟨k+1,by omega,by go_num,?_,Qa hw hb3⟩
       rw [HF.out]
       exact HO3
      case measure=>simp [intOf];omega
     ·rw [hc] at hnd
      have HN:=Lib.hid hnd
      have HF:Hid ((L.take (k+1)).filter (JM L n)=T ++ [⟨y,⟨yz,ym,yt⟩,yn⟩]):=by show _=_;rw [QiB hlt HY.out hc,hT.out]
      clear hnd hc
      go_wp2_with (first
       | (go_at_call 103;refine HN.out.mono ?_;rintro e w3 ⟨rfl,hb3⟩;have HO3:=Lib.hid (Qi HO.out hb3);have hw3:=Qa hw hb3;replace c0:=keep hb3 c0;replace e0:=keep hb3 e0;replace e1:=keep hb3 e1;replace e2:=keep hb3 e2;replace e3:=keep hb3 e3;replace e4:=keep hb3 e4)
       | (at_builtin;refine wpList_append_own_at _ rfl _ _ 119 rfl w.heap.size 128 i0 _ 5 56 Tryz.underlying119 hi hz0 hz1 hz2 rfl (by decide) (.slice A4 T.length c4) T.length (Zy T) rfl (Qi HO3.out (Qc _ _)) ⟨w3.heap.size,0,none⟩ 1 1 (V0 ⟨y,⟨yz,ym,yt⟩,yn⟩) rfl rfl (World.news_of_block (heap_alloc_new w3 _)) (QaP _) (QA (by omega)) (by omega) (Nat.le_trans hw3.size (Qc _ _).size) ?_;intro v5 w5 HO5 hg5 _ _;have hw5:=QX (Qa hw3 (Qc w3 _)) (Nat.le_refl _) (Qi HO3.out (Qc _ _)) hg5;replace HO5:=Lib.hid HO5;clear hg5))
      go_roundw
      case rel =>
       refine ⟨k+1,by omega,by go_num,?_,hw5⟩
       rw [HF.out,QcP,List.length_append]
       exact HO5
      case measure=>simp [intOf];omega
    ·obtain rfl:k=L.length:=by omega
     have hTT:T=L.filter (JM L n):=by rw [<- hT.out,List.take_length]
     have h1:=ZP.setList HH.out hw HO.out
     have h2:=ZP.setLow h1 n
     have ho:Qg O w ((wi.setCell ⟨q,o,none⟩ (.slice A4 T.length c4)).setCell ⟨q,o+2,none⟩ (.int .u64 (n:Int))) :=
      ((Qg.of_below hw).trans' ((YA wi q o _).mono fun k e=>by rw [e];exact HH.out.hq)).trans' ((YA _ q (o+2) _).mono fun k e=>by rw [e];exact HH.out.hq)
     have H2:=Lib.hid h2
     have HOut:=Lib.hid ho
     have hsub:IntKind.i64.wrap ((L.length:Int)-(T.length:Int))=(L.length:Int)-(T.length:Int):=IntWalk.i64_in _ (by omega)
     have HTT:=Lib.hid hTT
     clear h1 h2 ho hTT hlt
     go_wp2
     go_ret2
     refine ⟨by rw [QgA,QgB,HE.out, <- HTT.out];rfl,?_,HOut.out⟩
     rw [Qbv,UD,HE.out]
     rw [show ext O w ((wi.setCell ⟨q,o,none⟩ (.slice A4 T.length c4)).setCell ⟨q,o+2,none⟩ (.int .u64 (n:Int)))=ext O w (wi.setCell ⟨q,o,none⟩ (.slice A4 T.length c4)) from funext fun k=>by simp [ext]]
     simp only [if_true, <- HTT.out]
     exact ⟨_,H2.out⟩
def Z0 {α:Type} (f:Nat->α) (g:Nat) (x:α):Nat->α:=fun h=>if h=g then x else f h
theorem Xa {α:Type} {f:Nat->α} {g:Nat} {x:α}:Z0 f g x g=x:=if_pos rfl
theorem Y4 {α:Type} {f:Nat->α} {g h:Nat} {x:α} (e:h ≠ g):Z0 f g x h=f h:=if_neg e
structure Z5 (w:World) (B q:Nat) (v:Nat->Value) (S:Nat->QR):Prop where
 blk:∃ cur t,w.heap[q]? = some (.cells cur t (0,0))/\∀ g,g<4->cur[g * 3]? = some (v g)/\cur[g * 3+1]? = some (.int .u64 ((S g).last:Int))/\cur[g * 3+2]? = some (.int .u64 ((S g).low:Int))
 row:∀ g,g<4->w.ownsRow B 128 5 (v g) (Qq (S g).ks).length (Zy (Qq (S g).ks))
 apart:∀ g h,g<4->h<4->g ≠ h->∀ k,(v g).ownBlock=some k->(v h).ownBlock ≠ some k
 nq:∀ g,g<4->(v g).ownBlock ≠ some q
 hq:B<=q/\q<w.heap.size
 ok:∀ g,g<4->Yw (S g)
def QdC (q:Nat) (v:Nat->Value) (g:Nat):Nat->Prop:=fun k=>k=q \/ (v g).ownBlock=some k
section
variable {w w':World} {B q:Nat} {v:Nat->Value} {S:Nat->QR} {g:Nat}
theorem Z5.at' (h:Z5 w B q v S) (hg:g<4):∃ R,ZP w B q (g * 3) R (v g) (QdC q v g) (Qq (S g).ks) (S g).last (S g).low /\
  ∀ w' v' (S':QR),Yw S'->ZP w' B q (g * 3) R v' (ext (QdC q v g) w w') (Qq S'.ks) S'.last S'.low->Qg (QdC q v g) w w'->Z5 w' B q (Z0 v g v') (Z0 S g S'):=by
 obtain ⟨cur,t,hb,hc⟩:=h.blk
 have hlt:∀ x,x<4->∀ k,(v x).ownBlock=some k->B<=k/\k<w.heap.size:=fun x hx k e=>(h.row x hx).lt k e
 refine ⟨fun j=>cur[j]?,⟨⟨cur,t,hb,(hc g hg).1,(hc g hg).2.1,(hc g hg).2.2,fun j _=>rfl⟩,h.row g hg,.inl rfl,fun k e=>⟨.inr e,fun z=>h.nq g hg (by rw [e,z])⟩,fun k hk=>?_⟩,fun w' v' S' hS hR ho=>?_⟩
 ·rcases hk with rfl | e
  ·exact h.hq
  ·exact hlt g hg k e
 ·obtain ⟨cur',t',hb',c0,c1,c2,hr⟩:=hR.blk
  have hv':∀ k,v'.ownBlock=some k->k ≠ q/\((v g).ownBlock=some k \/ w.heap.size<=k):=fun k e=>by
   obtain ⟨h1,h2⟩:=hR.mine k e
   refine ⟨h2,?_⟩
   rcases h1 with (z | z) | z
   ·exact absurd z h2
   ·exact .inl z
   ·exact .inr z.1
  refine { blk:=⟨cur',t',hb',fun x hx=>?_⟩,row:=fun x hx=>?_,apart:=fun x y hx hy hne k e=>?_,nq:=fun x hx e=>?_,hq:=⟨h.hq.1,Nat.lt_of_lt_of_le h.hq.2 ho.size⟩,ok:=fun x hx=>?_ }
  ·by_cases e:x=g
   ·subst e;rw [Xa,Xa];exact ⟨c0,c1,c2⟩
   ·rw [Y4 e,Y4 e]
    obtain ⟨d0,d1,d2⟩:=hc x hx
    refine ⟨?_,?_,?_⟩
    ·rw [hr (x * 3) (by omega)];exact d0
    ·rw [hr (x * 3+1) (by omega)];exact d1
    ·rw [hr (x * 3+2) (by omega)];exact d2
  ·by_cases e:x=g
   ·subst e;rw [Xa,Xa];exact hR.row
   ·rw [Y4 e,Y4 e]
    refine ho.row (h.row x hx) (fun k hk z=>?_)
    rcases z with z | z
    ·exact h.nq x hx (by rw [hk,z])
    ·exact h.apart x g hx hg e k hk z
  ·by_cases ex:x=g
   ·subst ex
    have ey:y ≠ x:=fun z=>hne z.symm
    rw [Xa] at e
    rw [Y4 ey]
    rcases (hv' k e).2 with z | z
    ·exact h.apart x y hx hy hne k z
    ·intro z2
     have:=(hlt y hy k z2).2
     omega
   ·rw [Y4 ex] at e
    by_cases ey:y=g
    ·subst ey
     rw [Xa]
     intro z
     rcases (hv' k z).2 with z2 | z2
     ·exact h.apart x y hx hy hne k e z2
     ·have:=(hlt x hx k e).2
      omega
    ·rw [Y4 ey];exact h.apart x y hx hy hne k e
  ·by_cases ex:x=g
   ·subst ex;rw [Xa] at e;exact (hv' q e).1 rfl
   ·rw [Y4 ex] at e;exact h.nq x hx e
  ·by_cases ex:x=g
   ·subst ex;rw [Xa];exact hS
   ·rw [Y4 ex];exact h.ok x hx
theorem Z5.later (h:Z5 w B q v S) (hb:Below w.heap.size w w'):Z5 w' B q v S:=by
 obtain ⟨cur,t,hk,hc⟩:=h.blk
 exact { h with blk:=⟨cur,t,YB hk hb,hc⟩,row:=fun x hx=>Qi (h.row x hx) hb,hq:=⟨h.hq.1,Nat.lt_of_lt_of_le h.hq.2 hb.size⟩ }
theorem Z5.old (h:Z5 w B q v S) (hg:g<4) {k:Nat} (hk:QdC q v g k):B<=k/\k<w.heap.size:=by
 rcases hk with rfl | e
 ·exact h.hq
 ·exact (h.row g hg).lt k e
theorem Qcq {s:QR} (h:Yw s) (n:Nat) (l:List Wr):JA (Qq s.ks) s.last n l=Qq (QH s n l).ks/\Un s.last n l=(QH s n l).last/\s.low=(QH s n l).low:=by
 unfold JA Un QH
 split
 ·exact ⟨rfl,rfl,rfl⟩
 ·split
  ·exact ⟨Qh6 h.rises n l,rfl,rfl⟩
  ·exact ⟨rfl,rfl,rfl⟩
theorem Z5.seen (h:Z5 w B q v S) (hg:g<4) (k:ByteArray) (n:Nat) (hn:(Qq (S g).ks).length<=900000) :
  Calls Tryz.prog 48 #[.pointer (some ⟨q,g * 3,none⟩),.string k,.int .u64 (n:Int)] w (KY w (Z3 (getK (S g).ks k) n)):=by
 obtain ⟨R,hR,_⟩:=h.at' hg
 have:=Qcm ⟨_,hR⟩ k n hn
 rw [QcM (h.ok g hg).rises] at this
 exact this
def U6 (w:World) (B q:Nat) (v:Nat->Value) (g:Nat) (S':Nat->QR) (w':World):Prop:=∃ v',Z5 w' B q v' S'/\Qg (QdC q v g) w w'
theorem Z5.apply (h:Z5 w B q v S) (hg:g<4) (hB:B<=w.heap.size) (n:Nat) (l:List Wr) (A:Option Addr) (ca:Nat) (hA:Yf w A l) (hAO:∀ a,A=some a->0<l.length->¬ QdC q v g a.block) (hok:Qad l) (hI:(Qq (S g).ks).length+l.length<=800000) :
  Calls Tryz.prog 49 #[.pointer (some ⟨q,g * 3,none⟩),.int .u64 (n:Int),.slice A l.length ca] w fun e w'=>(∃ z,e = .returned (.int .i64 z))/\U6 w B q v g (Z0 S g (QH (S g) n l)) w':=by
 obtain ⟨R,hR,hback⟩:=h.at' hg
 refine (Qgu ⟨_,hR⟩ hB n l A ca hA hAO hok hI).mono ?_
 rintro e w' ⟨e1,⟨v',hv'⟩,ho⟩
 obtain ⟨r1,r2,r3⟩:=Qcq (h.ok g hg) n l
 rw [r1,r2,r3] at hv'
 exact ⟨⟨_,e1⟩,_,hback w' v' _ (Vy (h.ok g hg) n l) hv' ho,ho⟩
theorem Z5.collect (h:Z5 w B q v S) (hg:g<4) (hB:B<=w.heap.size) (n:Nat) (hI:(Qq (S g).ks).length<=800000) :
  Calls Tryz.prog 50 #[.pointer (some ⟨q,g * 3,none⟩),.int .u64 (n:Int)] w fun e w'=>(∃ y z,e = .returned (.tuple #[.int .i64 y,.int .i64 z]))/\U6 w B q v g (Z0 S g (Zv (S g) n)) w':=by
 obtain ⟨R,hR,hback⟩:=h.at' hg
 refine (QiC ⟨_,hR⟩ hB n hI).mono ?_
 rintro e w' ⟨e1,⟨v',hv'⟩,ho⟩
 have r1:=Qc4 (h.ok g hg) n
 have r2:UD (S g).last (S g).low n=(Zv (S g) n).low:=by
  unfold UD Zv
  rw [show Jy (S g).last (S g).low n=Xy (S g) n from rfl]
  split <;> rfl
 have r3:(S g).last=(Zv (S g) n).last:=by unfold Zv;split <;> rfl
 rw [r1,r2] at hv'
 rw [r3] at hv'
 exact ⟨⟨_,_,e1⟩,_,hback w' v' _ (QdM (h.ok g hg) n) hv' ho,ho⟩
end
structure Qcr (s:QR) (k:Nat):Prop where
 lo:JL s
 la:s.last<=k
 it:(Qq s.ks).length<=6 * k
theorem Qcr.more {s:QR} {k k':Nat} (h:Qcr s k) (hk:k<=k'):Qcr s k':=⟨h.lo,Nat.le_trans h.la hk,Nat.le_trans h.it (by omega)⟩
theorem QhX {s:QR} (h:Yw s) (n:Nat):(Qq (Zv s n).ks).length<=(Qq s.ks).length:=by
 rw [<- Qc4 h n,Qbv]
 split
 ·exact List.length_filter_le _ _
 ·exact Nat.le_refl _
theorem Qa1 {s:QR} (h:Yw s) (n:Nat) (l:List Wr):(Qq (QH s n l).ks).length<=(Qq s.ks).length+l.length:=by
 rw [<- (Qcq h n l).1,JA]
 split
 ·omega
 ·split
  ·rw [QbT];exact Nat.le_refl _
  ·omega
theorem QoU {c:Ql} {g:Int} {s:QR} {t:Tx} {k:Nat} (h:Qcr s k) (hf:Qh t=true):Qcr (Xq c g s t) (k+1):=by
 by_cases hw:Qr c t g=[]
 ·rw [Qaw h.lo hw];exact h.more (Nat.le_succ _)
 ·refine ⟨(Vp h.lo hf hw).2,?_,?_⟩
  ·rw [(Vp h.lo hf hw).1]
   have ha:=Qav (s:=s) (J4 (c:=c) (g:=g) hf)
   have hl:(K5 s (Qr c t g)).last=s.last+1:=by
    unfold K5
    split
    ·rw [Qgg,ha]
    ·rw [ha]
   rw [hl]
   have:=h.la
   omega
  ·rw [(Vp h.lo hf hw).1]
   have h1:=Qa1 h.lo.ok (s.last+1) (Qr c t g)
   have h6:=Ux (c:=c) (g:=g) hf
   have hit:=h.it
   unfold K5
   split
   ·have:=QhX (Vy h.lo.ok (s.last+1) (Qr c t g)) (s.last+1-8)
    omega
   ·omega
theorem QhY {α:Type} {P:List α->Prop} (h0:P []) (h1:∀ l a,P l->P (l ++ [a])) (l:List α):P l:=by
 have h:∀ r:List α,P r.reverse:=fun r=>by
  induction r with
  | nil=>exact h0
  | cons a r ih=>rw [List.reverse_cons];exact h1 _ _ ih
 have:=h l.reverse
 rwa [List.reverse_reverse] at this
theorem QoV {c:Ql} {g:Int}:∀ (l:List Tx),(∀ t ∈ l,Qh t=true)->Qcr (Jb c g l) l.length:=by
 refine QhY ?_ ?_
 ·intro _;exact ⟨Qfh,Nat.le_refl _,Nat.le_refl _⟩
 ·intro l t ih hf
  rw [Qcp,List.length_append]
  exact QoU (ih (fun x hx=>hf x (List.mem_append_left _ hx))) (hf t (by simp))
structure QoW (c:Ql) (W:Wd) (txs:List Tx):Prop where
 f:∀ t ∈ txs,Qh t=true
 l:txs.length<=14
 rd:∀ i t,txs[i]? = some t->∀ g:Nat,g<c.reps.length->Yj (Jb c g (txs.take i)) (Q4 c t g)=true
 st:∀ g:Nat,g<c.reps.length->(W.m g).s=Jb c g txs
def Ym (c:Ql) (txs:List Tx) (i g:Nat) (St:Nat->QR):Prop:=∀ h:Nat,h<4->St h=if h<c.reps.length then (if h<g then Jb c h (txs.take (i+1)) else Jb c h (txs.take i)) else Kt
section
variable {c:Ql} {txs:List Tx} {i g:Nat} {St:Nat->QR}
theorem Ym.here (h:Ym c txs i g St) (hg:g<c.reps.length) (h4:g<4):St g=Jb c g (txs.take i):=by
 rw [h g h4,if_pos hg,if_neg (Nat.lt_irrefl _)]
theorem Ym.step (h:Ym c txs i g St) (hg:g<c.reps.length) {t:Tx} (ht:txs[i]? = some t) {s:QR} (hs:s=Xq c g (Jb c g (txs.take i)) t):Ym c txs i (g+1) (Z0 St g s):=fun x hx=>by
 have htk:txs.take (i+1)=txs.take i ++ [t]:=by rw [List.take_add_one,ht];rfl
 by_cases e:x=g
 ·subst e
  rw [Xa,if_pos hg,if_pos (Nat.lt_succ_self _),htk,Qcp,hs]
 ·rw [Y4 e,h x hx]
  by_cases h1:x<c.reps.length
  ·rw [if_pos h1,if_pos h1]
   by_cases h2:x<g
   ·rw [if_pos h2,if_pos (by omega)]
   ·rw [if_neg h2,if_neg (by omega)]
  ·rw [if_neg h1,if_neg h1]
theorem Ym.next (h:Ym c txs i c.reps.length St):Ym c txs (i+1) 0 St:=fun x hx=>by
 rw [h x hx]
 by_cases h1:x<c.reps.length
 ·rw [if_pos h1,if_pos h1,if_pos h1,if_neg (Nat.not_lt_zero _)]
 ·rw [if_neg h1,if_neg h1]
theorem Ym.start:Ym c txs 0 0 (fun _=>Kt):=fun x hx=>by
 by_cases h1:x<c.reps.length
 ·rw [if_pos h1,if_neg (Nat.not_lt_zero _)];rfl
 ·rw [if_neg h1]
theorem Ym.end (h:Ym c txs txs.length 0 St) (hg:g<c.reps.length) (h4:g<4):St g=Jb c g txs:=by
 rw [h g h4,if_pos hg,if_neg (Nat.not_lt_zero _),List.take_length]
theorem QiD (hf:∀ t ∈ txs,Qh t=true) (i:Nat):∀ t ∈ txs.take i,Qh t=true:=fun t ht=>hf t (List.mem_of_mem_take ht)
theorem Qmo (hf:∀ t ∈ txs,Qh t=true) (hl:txs.length<=14) (i:Nat) (g:Int):Qcr (Jb c g (txs.take i)) 14:=(QoV _ (QiD hf i)).more (by rw [List.length_take];omega)
end
theorem Qpd (w : World) (B : Nat) (hB : B <= w.heap.size) (t : TypeId) : Z5 (w.alloc (.cells #[.slice none 0 0, .int .u64 0, .int .u64 0, .slice none 0 0, .int .u64 0, .int .u64 0, .slice none 0 0, .int .u64 0, .int .u64 0, .slice none 0 0, .int .u64 0, .int .u64 0] t)) B w.heap.size (fun _ => .slice none 0 0) (fun _ => Kt) :=
  { blk := ⟨_, t, heap_alloc_new w _, fun g hg => by rcases (by omega : g = 0 \/ g = 1 \/ g = 2 \/ g = 3) with rfl | rfl | rfl | rfl <;> exact ⟨rfl, rfl, rfl⟩⟩
    row := fun _ _ => Q7 _ _ _ _, apart := fun _ _ _ _ _ k e => (by cases e), nq := fun _ _ e => (by cases e), hq := ⟨hB, by simp⟩, ok := fun _ _ => QgM }
def Qax (c:Ql) (g:Int) (s:QR):Prop:=∀ p ∈ s.ks,QO c p.1=g
theorem QeP {c:Ql} {g:Int} {n:Nat}:∀ (l:List Wr) (m:KV),(∀ p ∈ m,QO c p.1=g)->(∀ x ∈ l,QO c x.key=g)->∀ p ∈ Zx n m l,QO c p.1=g
 | [],m,hm,_=>hm
 | x :: l,m,hm,hl=>by
  refine QeP l (JU n m x) (fun p hp=>?_) (fun y hy=>hl y (List.mem_cons_of_mem _ hy))
  rcases Qdc hp with e | e
  ·rw [e];exact hl x List.mem_cons_self
  ·exact hm p e
theorem Qno {c:Ql} {g:Int} {s:QR} {v:Nat} (h:Qax c g s):Qax c g (Zv s v):=by
 unfold Zv
 split
 ·intro p hp
  obtain ⟨q,hq,rfl,_⟩:=Qdd hp
  exact h q hq
 ·exact h
theorem Qmp {c:Ql} {g:Int} (hc:Qn c=true) {s:QR} (h:Qax c g s) {t:Tx} (hf:Qh t=true):Qax c g (Xq c g s t):=by
 have h1:Qax c g (if (Qr c t g).isEmpty then s else QH s (s.last+1) (Qr c t g)):=by
  split
  ·exact h
  ·rw [Qav (J4 hf)]
   refine QeP _ _ h (fun x hx=>?_)
   rw [Qr,Vd hc hf,List.mem_filter] at hx
   simpa [Qbg] using hx.2
 unfold Xq
 by_cases h8:8<(if (Qr c t g).isEmpty then s else QH s (s.last+1) (Qr c t g)).last
 ·rw [if_pos h8];exact Qno h1
 ·rw [if_neg h8];exact h1
theorem Qmq {c:Ql} {g:Int} (hc:Qn c=true):∀ (l:List Tx),(∀ t ∈ l,Qh t=true)->Qax c g (Jb c g l):=by
 refine QhY ?_ ?_
 ·intro _ p hp;cases hp
 ·intro l t ih hf
  rw [Qcp]
  exact Qmp hc (ih (fun x hx=>hf x (List.mem_append_left _ hx))) (hf t (by simp))
theorem Qku {c:Ql} {g:Int} {s:QR} (h:Qax c g s) {x:It} (hx:x ∈ Qq s.ks):QO c x.key=g:=by
 rw [Qq,List.mem_flatMap] at hx
 obtain ⟨p,hp,hx⟩:=hx
 rw [Z8,List.mem_map] at hx
 obtain ⟨v,_,rfl⟩:=hx
 exact h p hp
end Go.Proofs.YtcldpmkhpmlcbaaGreatDoor
