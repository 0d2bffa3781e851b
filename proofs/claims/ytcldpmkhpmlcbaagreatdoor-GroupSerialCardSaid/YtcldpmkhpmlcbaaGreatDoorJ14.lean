/- part -/
import Derived.Test.YtcldpmkhpmlcbaaGreatDoorGrTell17
import Derived.Test.YtcldpmkhpmlcbaaGreatDoorJ7
import Derived.Test.YtcldpmkhpmlcbaaGreatDoorJ9
import Derived.Test.YtcldpmkhpmlcbaaGreatDoorJ6
import Derived.Test.YtcldpmkhpmlcbaaGreatDoorJ8
import Derived.IntWalk
import Derived.Test.YtcldpmkhpmlcbaaGreatDoorShelfC
import Derived.Test.YtcldpmkhpmlcbaaGreatDoorRefAp14
import Derived.Test.YtcldpmkhpmlcbaaGreatDoorJ4
set_option linter.unusedVariables false
set_option linter.unusedSimpArgs false
namespace Go.Proofs.YtcldpmkhpmlcbaaGreatDoor
open Go.RowKit Go.Shelf Go.Maps
theorem QmS {g:Int} {gs:List Int} {k:Int} {i:Qp} {s:Nat} {y:Bool}:(Zb g gs k i s y).length<=gs.length:=by
 unfold Zb
 rw [List.length_map]
 exact List.length_filter_le _ _
set_option maxRecDepth 100000 in
set_option maxHeartbeats 4000000 in
theorem QiS {w:World} {B p:Nat} {c:Ql} {g:Int} {lab:Nat->QL} {x:Qk} {E:Q9} {ov:Value} {os:List Qv} {v:Zj} (h:Qo w B p c g lab x E ov) (hr:Q8 w B lab ov os) (hv:Qe x.wt (Qd v.t)=some v) (hgs:v.gs.length<=4) (hos:os.length<=899990)
  (hq:Zn x.q (Qd v.t)=true) (hT:Yh v.gs v.vs) (hg0:0<=g) (hg1:g<4) (hql:x.q.l.length<900000) :
  Calls Tryz.prog 86 #[.pointer (some ⟨p,0,none⟩),.pointer (some ⟨E.pp (Qd v.t),0,none⟩)] w (UZ w B p c g lab x E (os ++ YQ g x.q (Qd v.t) v)):=by
 obtain ⟨A,A',Ag,ca,cb,cg,tp,tg,tb,tc,hI⟩:=h.wt _ v hv
 have c0:w.cell? ⟨E.pp (Qd v.t),0,none⟩=some (.int .i64 v.t.ses):=by rw [cell_of_row w _ _ _ _ _ hI.blk];rfl
 have c1:w.cell? ⟨E.pp (Qd v.t),1,none⟩=some (.int .i64 v.t.seq):=by rw [cell_of_row w _ _ _ _ _ hI.blk];rfl
 have d3:w.cell? ⟨p,3,none⟩=some (.pointer (some ⟨E.qp,0,none⟩)):=by rw [cell_of_row w _ _ _ _ _ h.blk];rfl
 obtain ⟨qv,qes,hQ⟩:=h.q
 obtain ⟨on,hon⟩:∃ on,(Zo x.q (Qd v.t)).own=on:=⟨_,rfl⟩
 have hOwn:Hid (Calls Tryz.prog 142 #[.pointer (some ⟨E.qp,0,none⟩),.agg #[.int .i64 v.t.ses,.int .i64 v.t.seq]] w.drew fun e w'=>e = .returned (.tuple #[.int .u64 (on:Int),.bool true])/\Below w.drew.heap.size w.drew w'):=by
  have:=Qo7 (hQ.later (Qb (Below.refl w.heap.size w))) (i:=Qd v.t) hq hql
  rw [hon] at this
  exact this
 obtain ⟨s0,hs0⟩:∃ s0,v.t.ses=s0:=⟨_,rfl⟩
 obtain ⟨s1,hs1⟩:∃ s1,v.t.seq=s1:=⟨_,rfl⟩
 rw [hs0] at c0 hOwn
 rw [hs1] at c1 hOwn
 have hM:=Lib.hid h
 have hR:=Lib.hid hr
 have hV:=Lib.hid hv
 clear h hr hv hI hQ hs0 hs1
 go_enter Tryz.func86,Tryz.ntmps86
 go_wp2_with fail
 go_region_held3 (fun w'=>w'.cell? ⟨E.pp (Qd v.t),0,none⟩=some (.int .i64 s0)/\w'.cell? ⟨E.pp (Qd v.t),1,none⟩=some (.int .i64 s1)/\w'.cell? ⟨p,3,none⟩=some (.pointer (some ⟨E.qp,0,none⟩)))
  (first | exact ⟨c0,c1,d3⟩ | exact ⟨keep hbw c0,keep hbw c1,keep hbw d3⟩ | fail)
  ((go_at_call 142;refine hOwn.out.mono ?_;rintro e w1 ⟨rfl,hb1⟩;have hbw:Below w.heap.size w w1:=Qa (Qb (Below.refl w.heap.size w)) hb1))
 have hR1:Q8 w1 B lab ov os:=⟨Qi hR.out.1 hbw,hR.out.2⟩
 have hTell:=Lib.hid (Qhn (hM.out.later hbw) hR1 hV.out hgs (by omega) 2 on false)
 go_wp2_with (go_at_call 95;(with_reducible refine hTell.out.mono ?_);rintro e w2 ⟨rfl,hT2⟩;replace hT2:=Lib.hid hT2)
 obtain ⟨⟨lab2,ov2,hM2,hR2,hE2⟩,ho2⟩:=hT2.out
 obtain ⟨A2,A2',Ag2,ca2,cb2,cg2,tp2,tg2,tb2,tc2,hI2⟩:=hM2.wt _ v hV.out
 have e5:w2.cell? ⟨E.pp (Qd v.t),5,none⟩=some (.pointer (some ⟨tp2,0,none⟩)):=by rw [cell_of_row w2 _ _ _ _ _ hI2.blk];rfl
 have e2:w2.cell? ⟨p,2,none⟩=some (.int .i64 g):=by rw [cell_of_row w2 _ _ _ _ _ hM2.blk];rfl
 obtain ⟨vy,hvy⟩:∃ vy,Zh v.vs g=vy:=⟨_,rfl⟩
 obtain ⟨vh,hvh⟩:∃ vh,QU v.vs g=vh:=⟨_,rfl⟩
 have hVo:Hid (Calls Tryz.prog 92 #[.pointer (some ⟨tp2,0,none⟩),.int .i64 g] w2.drew fun e w'=>e = .returned (.tuple #[.bool vy,.bool vh])/\Below w2.drew.heap.size w2.drew w'):=by
  have:=QfJ g (by omega) (by omega) w2.drew (hI2.tal.later (Qb (Below.refl w2.heap.size w2))) hT
  rw [hvy,hvh] at this
  exact this
 replace hM2:=Lib.hid hM2
 replace hR2:=Lib.hid hR2
 replace hE2:=Lib.hid hE2
 replace ho2:=Lib.hid ho2
 have hA:YQ g x.q (Qd v.t) v=Zb g v.gs 2 (Qd v.t) on false ++ if vh then Zb g v.gs 3 (Qd v.t) 0 vy else []:=by rw [YQ,hon,hvy,hvh]
 replace hA:=Lib.hid hA
 clear hI2
 go_region_held3 (fun w'=>w'.cell? ⟨E.pp (Qd v.t),5,none⟩=some (.pointer (some ⟨tp2,0,none⟩))/\w'.cell? ⟨p,2,none⟩=some (.int .i64 g))
  (first | exact ⟨e5,e2⟩ | exact ⟨keep hbv e5,keep hbv e2⟩ | fail)
  ((go_at_call 92;refine hVo.out.mono ?_;rintro e w3 ⟨rfl,hb3⟩;have hbv:Below w2.heap.size w2 w3:=Qa (Qb (Below.refl w2.heap.size w2)) hb3))
 have hR3:Q8 w3 B lab2 ov2 (os ++ Zb g v.gs 2 (Qd v.t) on false):=⟨Qi hR2.out.1 hbv,hR2.out.2⟩
 have hM3:=hM2.out.later hbv
 have hO13:Qg (fun k=>lab k = .m \/ lab k = .out) w w3:=((Qg.of_below hbw).trans' ho2.out).trans' (Qg.of_below hbv)
 have hlen3:(os ++ Zb g v.gs 2 (Qd v.t) on false).length<=900000:=by
  rw [List.length_append]
  have:=@QmS g v.gs 2 (Qd v.t) on false
  omega
 cases vh
 ·go_wp2
  go_end0
  refine ⟨rfl,⟨⟨lab2,ov2,hM3,?_,fun q hq=>hE2.out q (Nat.lt_of_lt_of_le hq hbw.size)⟩,hO13⟩⟩
  rw [hA.out]
  simpa using hR3
 ·have hTell3:Hid (Calls Tryz.prog 95 #[.pointer (some ⟨p,0,none⟩),.pointer (some ⟨E.pp (Qd v.t),0,none⟩),.agg #[.int .i64 3,.int .i64 0,.int .i64 0,.int .i64 0,.int .u64 0,.bool vy]] w3 (UZ w3 B p c g lab2 x E (os ++ Zb g v.gs 2 (Qd v.t) on false ++ Zb g v.gs 3 (Qd v.t) 0 vy))):=Qhn hM3 hR3 hV.out hgs hlen3 3 0 vy
  go_wp2_with (go_at_call 95;(with_reducible refine hTell3.out.mono ?_);rintro e w4 ⟨rfl,hT4⟩;replace hT4:=Lib.hid hT4)
  go_end0
  obtain ⟨⟨lab4,ov4,hM4,hR4,hE4⟩,ho4⟩:=hT4.out
  have hs13:=hO13.size
  refine ⟨rfl,⟨⟨lab4,ov4,hM4,?_,fun q hq=>(hE4 q (Nat.lt_of_lt_of_le hq hs13)).trans (hE2.out q (Nat.lt_of_lt_of_le hq hbw.size))⟩,?_⟩⟩
  ·rw [hA.out]
   simpa using hR4
  ·exact hO13.trans_old ho4 (fun q hq e=>by
    rw [hE2.out q (Nat.lt_of_lt_of_le hq hbw.size)] at e
    exact e)
theorem Qak {s:QR} (h:Yw s) (n:Nat) (l:List Wr):(Qq (QH s n l).ks).length<=(Qq s.ks).length+l.length:=by
 rw [QH]
 split
 ·omega
 ·split
  ·rw [VA n l h.rises];exact Nat.le_refl _
  ·omega
theorem QW.lt {w:World} {B p N:Nat} {O:Nat->Prop} {s:QR} (h:QW w B p N O s):∀ k,O k->B<=k/\k<w.heap.size:=by
 obtain ⟨mb,D,V,h⟩:=h;exact h.lt
theorem Kb.lt {w:World} {B q:Nat} {O:Nat->Prop} {L:List It} {last low:Nat} (h:Kb w B q O L last low):∀ k,O k->B<=k/\k<w.heap.size:=by
 obtain ⟨v,h⟩:=h;exact h.lt
theorem QW.base {w:World} {B B' p N:Nat} {O:Nat->Prop} {s:QR} (h:QW w B p N O s) (hB:B'<=B):QW w B' p N O s:=by
 obtain ⟨mb,D,V,h⟩:=h
 refine ⟨mb,D,V,?_⟩
 have hrow:∀ k,KO w B' (V k) (getK s.ks k):=fun k=>⟨(h.keys.row k).1,(h.keys.row k).2.imp id fun ⟨g,cap,cur,e,hg,r⟩=>⟨g,cap,cur,e,by omega,r⟩⟩
 exact { blk:=h.blk,keys:={ own:=h.keys.own,has:=h.keys.has,at_:=h.keys.at_,row:=hrow,nil:=h.keys.nil,apart:=h.keys.apart,mine:=h.keys.mine,hm:=h.keys.hm },hp:=h.hp,n1:=h.n1,n2:=h.n2,lt:=fun k hk=>⟨by have:=(h.lt k hk).1;omega,(h.lt k hk).2⟩ }
def Qb1 (w:World) (B p q N:Nat) (s:QR):Prop :=
 ∃ (O O2:Nat->Prop) (M:Nat),M<=N/\QW w B p M O s/\Kb w B q O2 (Qq s.ks) s.last s.low/\∀ k,O k->¬ O2 k
theorem Qb1.later {w w':World} {B p q N:Nat} {s:QR} (h:Qb1 w B p q N s) (hb:Below w.heap.size w w'):Qb1 w' B p q N s:=by
 obtain ⟨O,O2,M,hM,h1,h2,h5⟩:=h
 exact ⟨O,O2,M,hM,h1.later hb,h2.later hb,h5⟩
theorem QnX {w w1:World} {B:Nat} (hB:B<=w.heap.size) (h:w1.heap[w.heap.size]? = some (.cells #[.slice none 0 0,.int .u64 0,.int .u64 0] 121 (0,0))) (hs:w1.heap.size=w.heap.size+1):Kb w1 B w.heap.size (fun k=>k=w.heap.size) [] 0 0 :=
 ⟨_,{ blk:=h,row:=Q7 _ _ _ _,hq:=rfl,mine:=fun g hg=>(by cases hg),lt:=fun k hk=>⟨by omega,by omega⟩ }⟩
theorem Qb1.new {w w1 w2:World} {p:Nat} {T:TypeId} (hS:QW w1 w.heap.size p 0 (ext noB w w1) Kt) (h2:w1.alloc (.cells #[.slice none 0 0,.int .u64 0,.int .u64 0] T)=w2) (hT:T=121) (hs:w.heap.size<=w1.heap.size):Qb1 w2 w.heap.size p w1.heap.size 0 Kt:=by
 subst hT h2
 refine ⟨_,_,0,Nat.le_refl _,hS.later (Qc _ _),QnX hs (heap_alloc_new w1 _) (by simp),fun k hk e=>?_⟩
 rcases hk with hk | hk
 ·exact hk
 ·omega
open Go.Sort
theorem QoC (w:World) (a b a' b' c' d':Value) (t t':TypeId):∃ W:World,(w.alloc (.cells #[a,b] t)).alloc (.cells #[a',b',c',d'] t')=W/\Below w.heap.size w W/\W.cell? ⟨w.heap.size,0,none⟩=some a/\W.cell? ⟨w.heap.size,1,none⟩=some b/\W.cell? ⟨w.heap.size+1,0,none⟩=some a'/\W.cell? ⟨w.heap.size+1,1,none⟩=some b'/\W.cell? ⟨w.heap.size+1,2,none⟩=some c'/\W.cell? ⟨w.heap.size+1,3,none⟩=some d' :=
 ⟨_,rfl,ZL _ _ _,by simp,by simp,by simp,by simp,by simp,by simp⟩
theorem Xo {t:Tx} (h:Qh t=true):t.rds.length<=6/\t.wrs.length<=6:=by
 simp only [Qh,Bool.and_eq_true,decide_eq_true_eq] at h
 exact ⟨h.1.1.1.1.1.2,h.1.1.1.1.2⟩
set_option maxRecDepth 100000 in
set_option maxHeartbeats 4000000 in
theorem QbC (c:Ql) (t:Tx) (A B A' B':Option Addr) (ca cb ca' cb':Nat) (w:World) (h:Z9 w c A B) (ht:QY w t A' B') (hT:XT w) :
  Calls Tryz.prog 84 #[.agg #[.slice A c.reps.length ca,.slice B c.bnds.length cb],XA t A' B' ca' cb'] w (Qai w (Qf c t)):=by
 unfold XA
 obtain ⟨W,eW,HB,c0,c1,d0,d1,d2,d3⟩:=QoC w (.slice A c.reps.length ca) (.slice B c.bnds.length cb) (.int .i64 t.ses) (.int .i64 t.seq) (.slice A' t.rds.length ca') (.slice B' t.wrs.length cb') 25 38
 have h:=h.later HB
 have ht:=ht.later HB
 have hT:=hT.later HB
 cases hf:Qh t
 ·have HE:Hid (Qf c t=[]):=by show _=_;simp [Qf,hf]
  go_enter Tryz.func84,Tryz.ntmps84
  go_wp2_with (go_at_call 81;refine (Qu hf (YM t _ _ _ _ _ ht hT)).mono ?_;rintro e w1 ⟨rfl,hb⟩;replace HB:=Qa HB hb)
  go_ret
  rw [HE.out]
  exact ⟨none,0,rfl,fun i hi=>by simp at hi,HB,fun a e=>by cases e⟩
 ·have HE:Hid (Qf c t=Y0 c (QJ t ++ QT t)):=by show _=_;simp [Qf,hf]
  obtain ⟨hn,hm⟩:=Xo hf
  have hlen:(QJ t ++ QT t).length<=1000:=by rw [List.length_append];simp only [QJ,QT,List.length_map];omega
  go_enter Tryz.func84,Tryz.ntmps84
  go_wp2_with (go_at_call 81;refine (Qu hf (YM t _ _ _ _ _ ht hT)).mono ?_;rintro e w1 ⟨rfl,hb⟩;replace HB:=Qa HB hb;replace h:=h.later hb;replace ht:=ht.later hb;replace c0:=keep hb c0;replace c1:=keep hb c1;replace d0:=keep hb d0;replace d1:=keep hb d1;replace d2:=keep hb d2;replace d3:=keep hb d3;clear hb)
  clear eW hf
  obtain ⟨wb,rfl⟩:∃ wb:World,wb=w1:=⟨_,rfl⟩
  generalize hKK:QJ t ++ QT t=KK at *
  have hKeys:∀ w,QY w t A' B'->Calls Tryz.prog 135 #[.agg #[.int .i64 t.ses,.int .i64 t.seq,.slice A' t.rds.length ca',.slice B' t.wrs.length cb']] w (QgX w KK):=fun w hw=>by rw [<- hKK];exact QgY t A' B' ca' cb' w hw hn hm
  clear hKK
  go_region_held3 (fun w'=>w'.cell? ⟨w.heap.size,0,none⟩=some (.slice A c.reps.length ca)/\w'.cell? ⟨w.heap.size,1,none⟩=some (.slice B c.bnds.length cb)/\w'.cell? ⟨w.heap.size+1,0,none⟩=some (.int .i64 t.ses)/\w'.cell? ⟨w.heap.size+1,1,none⟩=some (.int .i64 t.seq)/\w'.cell? ⟨w.heap.size+1,2,none⟩=some (.slice A' t.rds.length ca')/\w'.cell? ⟨w.heap.size+1,3,none⟩=some (.slice B' t.wrs.length cb')/\Below wb.heap.size wb w')
   (first | exact ⟨c0,c1,d0,d1,d2,d3,Qb (Below.refl _ _)⟩ | exact ⟨keep hb2 c0,keep hb2 c1,keep hb2 d0,keep hb2 d1,keep hb2 d2,keep hb2 d3,hb2⟩ | exact ⟨keep hb3 c0,keep hb3 c1,keep hb3 d0,keep hb3 d1,keep hb3 d2,keep hb3 d3,hb3⟩)
   (first
    | (go_at_call 135;refine (hKeys _ (ht.later (Qb (Below.refl _ _)))).mono ?_;rintro e w2 ⟨K,ck,rfl,_,hK,hb⟩;have hb2:Below wb.heap.size wb w2:=Qa (Qb (Below.refl _ _)) hb)
    | (go_at_call 140;refine (Qh9 c KK A B K ca cb ck _ (h.later hb2) hK hlen).mono ?_;rintro e w3 ⟨I,ci,rfl,hI,hb',hfr⟩;have hb3:=Qa hb2 hb';replace hfr:=Lib.hid hfr))
  all_goals
   go_wp2
   go_ret
   rw [HE.out]
   exact ⟨I,ci,rfl,hI,Qa HB hb3,fun a e=>Nat.le_trans (Nat.le_trans HB.size hb2.size) (hfr.out a e)⟩
theorem Qho {w:World} {base base' n size:Nat} {e:TypeId} {v:Value} {xs:List Value} (h:w.ownsRow base e size v n xs) (hb:base'<=base):w.ownsRow base' e size v n xs:=by
 refine ⟨h.1,?_⟩
 rcases h.2 with h2 | ⟨g,cap,cur,hv,hg,r⟩
 ·exact .inl h2
 ·exact .inr ⟨g,cap,cur,hv,Nat.le_trans hb hg,r⟩
def QmT (m:KV) (x:List UInt8):Nat:=(getK m ⟨x.toArray⟩).length
def Kq (m:KV) (ss:List (List UInt8)):Nat:=(ss.map (QmT m)).sum
theorem QfK (m:KV) (ss:List (List UInt8)) (x:List UInt8):Kq m (ss ++ [x])=Kq m ss+QmT m x:=by simp [Kq]
theorem Qlr (m:KV):(Qq m).length=(m.map fun p=>p.2.length).sum:=by
 induction m with
 | nil=>rfl
 | cons p m ih =>
  rw [show Qq (p :: m)=Z8 p ++ Qq m from rfl,List.length_append,Z8,List.length_map,List.map_cons,List.sum_cons,ih]
theorem QfL {m:KV} (h:Zg m):Kq m (Up m)=(Qq m).length:=by
 rw [Qlr,Kq,Up,List.map_map]
 refine congrArg List.sum (List.map_congr_left fun p hp=>?_)
 show (getK m ⟨p.1.data.toList.toArray⟩).length=p.2.length
 rw [show (⟨p.1.data.toList.toArray⟩:ByteArray)=p.1 from rfl,Qa8 h (l:=p.2) hp]
theorem QfM {m:KV} {a b:List (List UInt8)} (h:a.Perm b):Kq m a=Kq m b:=(h.map _).sum_nat
theorem QnY {m:KV} (hr:Zg m) (hne:∀ p ∈ m,p.2 ≠ []) {w:World} {B N mb:Nat} {D:DataW Value} {V:ByteArray->Value} {O:Nat->Prop} (h:Yz w B N mb D V O m) {left:Lit->Bool} {ss:List (List UInt8)} (hc:Collected D left ss):Kq m ss<=(Qq m).length:=by
 rw [<- QfL hr]
 have hin:∀ x ∈ ss,x ∈ Up m:=fun x hx=>by
  have e:=h.has ⟨x.toArray⟩
  rw [show lit ⟨x.toArray⟩=Lit.string x by simp [lit]] at e
  exact (Qfy hr hne x).2 (by rw [<- e];exact ((hc.2 x).1 hx).1)
 have hp:(Up m).Perm (ss ++ (Up m).filter fun x=>!decide (x ∈ ss)):=by
  refine (List.perm_ext_iff_of_nodup (QaB hr) ?_).2 fun x=>?_
  ·refine List.nodup_append.2 ⟨hc.1,List.Pairwise.filter _ (QaB hr),fun a ha b hb e=>?_⟩
   subst e
   have:=(List.mem_filter.1 hb).2
   simp [ha] at this
  ·rw [List.mem_append,List.mem_filter]
   constructor
   ·intro hx
    by_cases hs:x ∈ ss
    ·exact .inl hs
    ·exact .inr ⟨hx,by simp [hs]⟩
   ·rintro (hx | hx)
    ·exact hin x hx
    ·exact hx.1
 rw [QfM hp,Kq,Kq,List.map_append,List.sum_append]
 omega
set_option maxRecDepth 100000 in
set_option maxHeartbeats 4000000 in
theorem QcW {w:World} {B p N:Nat} {O:Nat->Prop} {s:QR} (h:QW w B p N O s) (hs:Yw s) (hI:(Qq s.ks).length<=800000) :
  Calls Tryz.prog 153 #[.pointer (some ⟨p,0,none⟩)] w fun e w'=>e = .returned (.int .i64 ((Qq s.ks).length:Int))/\Below w.heap.size w w':=by
 obtain ⟨mb,D,V,h⟩:=h
 have c0:=h.c0
 have HK:=Lib.hid h.keys
 clear h
 have own:=HK.out.own
 go_enter Tryz.func153,Tryz.ntmps153
 go_wp2_with (at_range;refine wpList_range_own _ rfl _ 167 rfl 9 _ Vz Tryz.underlying167 Xl mb N D rfl own ?_;intro w0 hrg0 hg0 hs0)
 go_frame
 go_loopw [3] (fun n wr=>∃ (left:Lit->Bool) (cnt:Nat) (ss:List (List UInt8)),n = .int .i64 (Kq s.ks ss:Nat)/\wr.ranges Tryz.prog 9 Xl mb w.heap.size N D left cnt/\Hid (Collected D left ss)/\Below w.heap.size w wr) (fun _ wr=>wr.rangeLeft mb w.heap.size)
 case atStart=>exact ⟨_,_,[],rfl,hrg0,Collected.start D,Below.grown (Below.refl _ _) hg0 (Nat.le_refl _) (fun k e=>by cases e)⟩
 case round =>
  obtain ⟨left,cnt,ss,rfl,hrg,HC,hw⟩:=hrel
  go_wp2_with (at_next;refine wpList_next_ranges _ rfl _ rfl 9 Vz Xl Value.string id (fun key kl hk=>by obtain ⟨x,hx,_⟩:=Qae hk;exact ⟨x,hx⟩) (fun v _ _=>⟨v,rfl⟩) mb w.heap.size N _ _ _ rfl hrg ?_ ?_)
  ·intro hc0 hl0
   have hsum:Kq s.ks ss=(Qq s.ks).length:=by
    rw [<- QfL hs.rises]
    exact QfM ((HC.out.perm own Vz Tryz.underlying9 hl0).trans (Qk2 HK.out hs.rises hs.ne).symm)
   have HSum:=Lib.hid hsum
   clear hsum
   go_wp2
   go_ret
   exact ⟨by rw [HSum.out] <;> rfl,hw⟩
  ·intro x c kl yd yp w2 cnt2 hkey hlk hv hat hrg2 hlt hg2 hs2 hen
   obtain ⟨x',ex,rfl,_⟩:=Qae hkey
   injection ex with ex
   subst ex
   simp only [Xl,Option.some.injEq,Prod.mk.injEq] at hv
   obtain ⟨rfl,rfl⟩:=hv
   have hhas:Maps.has D (lit x)=true:=has_true_of_atKey hat
   have hne:getK s.ks x ≠ []:=fun e=>by rw [HK.out.has,e] at hhas;cases hhas
   have hVc:c=V x:=by
    have h1:=hat (.held c)
    rw [HK.out.at_ x _ hne] at h1
    injection h1 with h1
    exact h1.symm
   obtain ⟨A,cap,hform⟩:∃ A cap,c = .slice A (getK s.ks x).length cap:=by
    have hr:=HK.out.row x
    rw [<- hVc] at hr
    rcases hr.2 with ⟨rfl,h0⟩ | ⟨g,cap,cur,rfl,_⟩
    ·exact ⟨none,0,by rw [h0] <;> rfl⟩
    ·exact ⟨_,_,rfl⟩
   subst hform
   have HC2:Hid (Collected D (fun z=>left z && !z.sameKey (lit x)) (ss ++ [x.data.toList])):=HC.out.step hlk hat
   have hle:=QnY hs.rises hs.ne HK.out HC2.out
   rw [QfK] at hle
   have hlk2:QmT s.ks x.data.toList=(getK s.ks x).length:=rfl
   rw [hlk2] at hle
   have HS2:Hid (Kq s.ks (ss ++ [x.data.toList])=Kq s.ks ss+(getK s.ks x).length):=by show _=_;rw [QfK,hlk2]
   have hwr:IntKind.i64.wrap (((Kq s.ks ss:Nat):Int)+((getK s.ks x).length:Int))=((Kq s.ks ss:Nat):Int)+((getK s.ks x).length:Int):=IntWalk.i64_in _ (by omega)
   have hw2:Below w.heap.size w w2:=Below.grown hw hg2 hw.size (fun k e=>by injection e with e;omega)
   clear hVc hne hhas hat hlk2 hg2
   go_wp2
   go_roundw
   case rel=>exact ⟨_,cnt2,ss ++ [x.data.toList],by rw [HS2.out];go_num,hrg2,HC2,hw2⟩
   case measure=>rw [hrg2.left_eq,hrg.left_eq];exact hlt
open Go.ChangeMaps Go.MapKept Go.WideShapes
open Go.WideElems (Fit rd rg pl rd_key rd_val rg_of other_key rd_mk)
theorem Qej {w w':World} (h:Below w.heap.size w w') (row:Option Nat):w.grownBy w' row:=⟨h.os,h.tape,h.output,h.size,fun i hi _=>h.block i hi⟩
section
variable {H:Type} {P:Program} {k:TypeId} {R:Value->Option (DataW H × List MemPlace)} {w:World} {b r n:Nat} {D:DataW H} {left:Lit->Bool} {cnt:Nat}
theorem QnZ {es:Array MapEntry} {clock:Nat} (K:Keyed P k) (F:Fit P k R es clock) {key:Value} {kl:Lit} (hkey:keyOf P k key=some kl) (hin:Maps.has (DataW.map ((es.toList.map (rg P k R)).foldr DataW.insert [])) kl=true):∃ x ∈ es.toList,x.key=key:=by
 obtain ⟨p,hp,hs⟩:=List.any_eq_true.1 hin
 obtain ⟨x,hx,rfl⟩:=List.mem_map.1 (mem_sorted.1 hp)
 refine ⟨x,hx,?_⟩
 obtain ⟨y,hy⟩:=F.reads x hx
 have e:=WideAt.sameKey_eq hs
 rw [rg_of hy] at e
 exact K.inj (e ▸ rd_key hy) hkey
theorem Qhp {w:World} {b:Nat} {es0 es es':Array MapEntry} {c0 c c':Nat} (hb:w.heap[b]? = some (.map es0 c0)) (h:setBlock w b (.map es c)=setBlock w b (.map es' c')):es=es'/\c=c':=by
 have h1:=heap_setBlock_same hb (.map es c)
 have h2:=heap_setBlock_same hb (.map es' c')
 rw [h,h2] at h1
 injection h1 with h1
 injection h1 with h1 h3
 exact ⟨h1.symm,h3.symm⟩
theorem Uv {t e:TypeId} (h:w.ranges P k R b r n D left cnt) (K:Keyed P k) (ht:P.underlying t=some (.map k e)) (hn:n<maxLen) {key val:Value} {kl:Lit} {d:DataW H} {ps:List MemPlace}
  (hkey:keyOf P k key=some kl) (hv:R val=some (d,ps)) (hin:Maps.has D kl=true) :
  ∃ w',(Instr.mapUpdate t (.map (some b)) key val).run P w = .ok () w'/\w'.ranges P k R b r n (D.put kl d) left cnt/\w.mapTurned w' b:=by
 have hne:=h.ne
 obtain ⟨es,clock,since,seen,c0,hb,F,hs,rfl,hr,hold,rfl,hl1,hl2,hsc,hsk⟩:=h
 obtain ⟨es',clock',hrun,F',hput,_⟩:=Maps.fit_store (R':=R) K ht hb F (Nat.lt_of_le_of_lt hs hn) (fun _ _ _ _ hz=>hz) hkey hv
 obtain ⟨x0,hx0,hk0⟩:=QnZ K F hkey hin
 rcases K.find w hkey es.toList F.keys with ⟨_,h2⟩ | ⟨j,e0,h1,h2,h3⟩
 ·exact absurd hk0 (h2 x0 hx0)
 ·have hj:es[j]? = some e0:=by simpa using h2
  have hrun2:(Instr.mapUpdate t (.map (some b)) key val).run P w = .ok () (setBlock w b (.map (es.modify j (fun e'=>{ e' with key:=key,val:=val })) clock)):=by
   simp [Instr.mapUpdate,run_underlying ht,MapKept.run_getObj_map hb,K.check w false hkey,h1,hj,h3,K.stays w hkey,MapKept.run_setObj_map _ hb,Result.andThen,setBlock]
  rw [hrun] at hrun2
  injection hrun2 with _ hrun3
  obtain ⟨rfl,rfl⟩:=Qhp hb hrun3
  have hlist:(es.modify j (fun e'=>{ e' with key:=key,val:=val })).toList=es.toList.set j { e0 with key:=key,val:=val }:=by rw [Array.toList_modify,modify_eq_set _ _ _ _ h2]
  have hjl:j<es.toList.length:=(List.getElem?_eq_some_iff.1 h2).1
  have hm0:e0 ∈ es.toList:=List.mem_of_getElem? h2
  have who:∀ x ∈ es.toList.set j { e0 with key:=key,val:=val },x = { e0 with key:=key,val:=val } \/ x ∈ es.toList:=by
   intro x hx
   rcases List.mem_or_eq_of_mem_set hx with h | h
   ·exact .inr h
   ·exact .inl h
  have hrg0:(rg P k R e0).1=kl:=by
   obtain ⟨y,hy⟩:=F.reads e0 hm0
   have m1:=rd_key hy
   rw [h3,hkey] at m1
   rw [rg_of hy, <- Option.some.inj m1]
  have hrgn:(rg P k R { e0 with key:=key,val:=val }).1=kl:=by rw [rg_of (rd_mk hkey hv)]
  refine ⟨_,hrun,⟨_,_,since,seen,c0,heap_setBlock_same hb _,F',by simpa using hs,by rw [DataW.put_eq,hput],(heap_setBlock_other hb _ hne).trans hr,fun x hx=>?_,?_,fun x hx=>?_,fun x0 hx0=>?_,hsc,hsk⟩,⟨es,_,_,_,hb,rfl⟩⟩
  ·rw [hlist] at hx
   rcases who x hx with rfl | hx
   ·exact hold e0 hm0
   ·exact hold x hx
  ·have hsz:∀ a:Array MapEntry,(leftOf a seen).size=(a.toList.filter fun e=>!seen.contains e.born).length:=fun a=>by
    unfold leftOf
    rw [<- Array.toList_filter,Array.length_toList]
   rw [hsz,hsz,hlist, <- List.countP_eq_length_filter, <- List.countP_eq_length_filter]
   have e1:es.toList=es.toList.set j e0:=by
    have hx:es.toList[j]=e0:=by rw [List.getElem?_eq_getElem hjl] at h2;injection h2
    rw [<- hx]
    exact (List.set_getElem_self hjl).symm
   conv=>rhs;rw [e1]
   have hcp:∀ y:MapEntry,(es.toList.set j y).countP (fun e=>!seen.contains e.born)=(es.toList.eraseIdx j).countP (fun e=>!seen.contains e.born)+(if (!seen.contains y.born)=true then 1 else 0):=fun y=>by
    rw [(set_perm es.toList j (by simpa using hjl) y).countP_eq,List.countP_cons]
   rw [hcp,hcp]
  ·rw [hlist] at hx
   rcases who x hx with rfl | hx
   ·rw [hrgn, <- hrg0]
    exact hl1 e0 hm0
   ·exact hl1 x hx
  ·obtain ⟨x,hx,rfl⟩:=hl2 x0 hx0
   rw [hlist]
   by_cases e:x.key=key
   ·refine ⟨{ e0 with key:=key,val:=val },List.mem_iff_getElem.2 ⟨j,by simpa using hjl,by simp⟩,?_⟩
    rw [hrgn]
    obtain ⟨y,hy⟩:=F.reads x hx
    have m1:=rd_key hy
    rw [e,hkey] at m1
    rw [rg_of hy, <- Option.some.inj m1]
   ·refine ⟨x,?_,rfl⟩
    obtain ⟨i,hi,rfl⟩:=List.getElem_of_mem hx
    have hij:i ≠ j:=fun e1=>by
     subst e1
     rw [List.getElem?_eq_getElem hi] at h2
     injection h2 with h2
     exact e (by rw [h2];exact h3)
    exact List.mem_iff_getElem.2 ⟨i,by simpa using hi,by rw [List.getElem_set_ne (Ne.symm hij)]⟩
end
end Go.Proofs.YtcldpmkhpmlcbaaGreatDoor
