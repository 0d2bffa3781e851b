/- part -/
import Derived.Test.YtcldpmkhpmlcbaaGreatDoorJ18
set_option linter.unusedVariables false
set_option linter.unusedSimpArgs false
namespace Go.Proofs.YtcldpmkhpmlcbaaGreatDoor
open Go.RowKit Go.Shelf Go.Maps
set_option maxRecDepth 100000 in
set_option maxHeartbeats 4000000 in
theorem Qiq {w:World} {B p n:Nat} {c:Ql} {g:Int} {lab:Nat->QL} {x:Qk} {E:Q9} {ov:Value} {os:List Qv} (h:ZW w B p c g n lab x E ov os) (t:Tx) (At Bt:Option Addr) (ca cb:Nat) (ht:QY w t At Bt) (oA:J3 B t.rds.length (fun k=>lab k = .one (Qd t)) At) (oB:J3 B t.wrs.length (fun k=>lab k = .one (Qd t)) Bt) (hf:Qh t=true) (hn:n<=2000) (hos:os.length<=899900)
  (hC0:(Qf c t).contains g=true) (hD:Qe x.dc (Qd t)=none) (hW0:Qe x.wt (Qd t)=none) :
  Calls Tryz.prog 41 #[.pointer (some ⟨p,0,none⟩),XA t At Bt ca cb] w (QcE w B p c g n lab x os t):=by
 unfold XA
 obtain ⟨W,eW,HB,hszW,hr0⟩:=Uy w #[.int .i64 t.ses,.int .i64 t.seq,.slice At t.rds.length ca,.slice Bt t.wrs.length cb] 38
 have HG:=Lib.hid (h.later HB)
 have hHt:=Lib.hid (ht.later HB)
 have hid:=(YR hf).1
 have hok:Y6 (Qd t):=Ki hid
 have hlt0:Hid (∀ k,lab k ≠ .no->k<w.heap.size):=h.lt
 have hstep:Hid (∀ wz,Below W.heap.size W wz->QE w wz lab lab):=fun wz hb=>QE.below (Qa HB hb)
 obtain ⟨b0,b1,b2,b3⟩:=Qly hr0
 obtain ⟨c0,c1,c2,c3,c4,c5,c6,c7,c8,c9,c10,c11⟩:=HG.out.m.cs
 clear h ht
 obtain ⟨gs,hgs⟩:∃ gs,Qf c t=gs:=⟨_,rfl⟩
 have hdB:(Qe x.dc (Qd t)).isSome=false:=by rw [hD];rfl
 obtain ⟨dd,hdd⟩:∃ d,Kc x (Qd t)=d:=⟨_,rfl⟩
 have hG1:Hid (∀ wz,Below W.heap.size W wz->Calls Tryz.prog 84 #[.agg #[.slice E.A c.reps.length E.ca,.slice E.A' c.bnds.length E.cb],.agg #[.int .i64 t.ses,.int .i64 t.seq,.slice At t.rds.length ca,.slice Bt t.wrs.length cb]] wz (Qai wz gs)):=fun wz hb=>by
  have:=QbC c t E.A E.A' At Bt E.ca E.cb ca cb wz (HG.out.m.cfg.later hb) (hHt.out.later hb) ((HG.out.later hb).tb.t)
  rw [hgs] at this
  exact this
 have LD:Hid (∀ wz,Below W.heap.size W wz->(Instr.lookup 103 (.map (some E.md)) (.agg #[.int .i64 t.ses,.int .i64 t.seq]) true).run Tryz.prog wz = .ok (.tuple #[.agg #[.bool dd.1,.int .u64 (dd.2:Int)],.bool false]) wz):=fun wz hb=>by
  have:=HG.out.m.lookD hok hb
  rw [hdB,hdd] at this
  exact this
 have hg4:Hid (gs.length<=4):=by
  show _<=_
  have h1:=(XO (t:=t) HG.out.k.cf).2.2
  have h2:=ZI HG.out.k.cf
  rw [hgs] at h1
  omega
 go_enter Tryz.func41,Tryz.ntmps41
 go_wp2
 clear eW
 have S1:Hid (∀ wz,Below W.heap.size W wz->wz.cell? ⟨p,0,none⟩=some (.slice E.A c.reps.length E.ca)/\wz.cell? ⟨p,1,none⟩=some (.slice E.A' c.bnds.length E.cb)/\wz.cell? ⟨w.heap.size,0,none⟩=some (.int .i64 t.ses)/\wz.cell? ⟨w.heap.size,1,none⟩=some (.int .i64 t.seq)/\wz.cell? ⟨w.heap.size,2,none⟩=some (.slice At t.rds.length ca)/\wz.cell? ⟨w.heap.size,3,none⟩=some (.slice Bt t.wrs.length cb)):=fun wz hb=>⟨keep hb c0,keep hb c1,keep hb b0,keep hb b1,keep hb b2,keep hb b3⟩
 go_region_held3 (fun w'=>w'.cell? ⟨p,0,none⟩=some (.slice E.A c.reps.length E.ca)/\w'.cell? ⟨p,1,none⟩=some (.slice E.A' c.bnds.length E.cb)/\w'.cell? ⟨w.heap.size,0,none⟩=some (.int .i64 t.ses)/\w'.cell? ⟨w.heap.size,1,none⟩=some (.int .i64 t.seq)/\w'.cell? ⟨w.heap.size,2,none⟩=some (.slice At t.rds.length ca)/\w'.cell? ⟨w.heap.size,3,none⟩=some (.slice Bt t.wrs.length cb))
  (first | exact S1.out _ (Qb (Below.refl _ _)) | exact S1.out _ hb1)
  ((go_at_call 84;(with_reducible refine (hG1.out _ (Qb (Below.refl _ _))).mono ?_);rintro e w1 ⟨A1,cap1,rfl,hI1,hbb,hfr1⟩;have hb1:Below W.heap.size W w1:=Qa (Qb (Below.refl W.heap.size W)) hbb))
 have d2:=keep hb1 c2
 have hme:Hid (gs.contains g=true):=by show _=_;rw [<- hgs];exact hC0
 have hC:Hid (Calls Tryz.prog 85 #[.slice A1 gs.length cap1,.int .i64 g] w1 fun e w'=>e = .returned (.bool true)/\w1=w'):=by
  have:=YD gs A1 cap1 g w1 hI1 (by have:=hg4.out;omega)
  rw [show KQ gs g=true from hme.out] at this
  exact this
 go_wp2_with (go_at_call 85;refine hC.out.mono ?_;rintro e w2 ⟨rfl,rfl⟩)
 have S3:Hid (∀ wz,Below w1.heap.size w1 wz->wz.cell? ⟨p,6,none⟩=some (.map (some E.md))/\wz.cell? ⟨w.heap.size,0,none⟩=some (.int .i64 t.ses)/\wz.cell? ⟨w.heap.size,1,none⟩=some (.int .i64 t.seq)):=fun wz hb=>⟨keep (Qa hb1 hb) c6,keep (Qa hb1 hb) b0,keep (Qa hb1 hb) b1⟩
 have l1:=LD.out w1.drew (Qa hb1 (Qb (Below.refl _ _)))
 have l2:=LD.out _ (Qa hb1 (Qb (Qc w1 (.cells #[.bool false,.int .u64 0] 112))))
 go_cut [5,6] (fun s u wx=>(∃ bd,s = .pointer (some ⟨bd,0,none⟩))/\u = .bool false/\Below w1.heap.size w1 wx)
 case first =>
  go_region_held3 (fun w'=>w'.cell? ⟨p,6,none⟩=some (.map (some E.md))/\w'.cell? ⟨w.heap.size,0,none⟩=some (.int .i64 t.ses)/\w'.cell? ⟨w.heap.size,1,none⟩=some (.int .i64 t.seq))
   (first | exact S3.out _ (Qb (Below.refl _ _)) | exact S3.out _ (Qb (Qc _ _)))
   (fail)
  all_goals
   go_wp2
   go_meet
   exact ⟨⟨_,rfl⟩,rfl,Qb (Qc _ _)⟩
 case rest =>
  obtain ⟨⟨bd,rfl⟩,rfl,hbc⟩:=hcut
  obtain ⟨w2,rfl⟩:∃ wq:World,wq=wc:=⟨_,rfl⟩
  clear l1 l2
  have hb2:Below W.heap.size W w2:=Qa hb1 hbc
  have hI2:QV w2 A1 gs:=QI.later hI1 hbc
  have lw:∀ nq,(Instr.lookup 102 (.map (some E.mw)) (.agg #[.int .i64 t.ses,.int .i64 t.seq]) false).run Tryz.prog (w2.drewN nq) = .ok (.pointer none) (w2.drewN nq):=fun nq=>by
   have:=HG.out.m.lookW hok (Qj hb2 nq)
   rw [hW0] at this
   exact this
  have d5:=keep hb2 c5
  have f0:=keep hb2 b0
  have f1:=keep hb2 b1
  have hqn:Hid (x.q.l.length<900000):=by
   have:=HG.out.k.cnt
   show _<_
   omega
  go_wp2
  go_quiet (fail)
  obtain ⟨w3,hw3⟩:∃ w3,w2.drewN nq=w3:=⟨_,rfl⟩
  have hb3:Below W.heap.size W w3:=by rw [<- hw3];exact Qj hb2 _
  have hb13:Below w1.heap.size w1 w3:=by rw [<- hw3];exact Qj hbc _
  have hI3:QV w3 A1 gs:=QI.later hI2 (by rw [<- hw3];exact Qj (Below.refl _ _) _)
  rw [hw3]
  clear hw3 lw d5 f0 f1
  have hpos:0<gs.length:=by
   cases e:gs with
   | nil=>have:=hme.out;rw [e] at this;cases this
   | cons=>simp
  obtain ⟨b,off,rfl,hbcell⟩:=hI1 0 hpos
  have hbW:Hid (w.heap.size<b/\W.heap.size<=b/\b<w1.heap.size):=by
   have h1:=hfr1 _ rfl
   have h2:=Yc hbcell
   have h3:W.drew.heap.size=W.heap.size:=rfl
   simp only at h1 h2
   show _/\_
   omega
  clear hbcell hfr1
  have hidO:QbM (Qd t)=true:=hid
  have hRB:Yy x.q.g gs=true:=by rw [HG.out.k.qg, <- hgs];exact Qb3 HG.out.k.cf hC0
  have hHQ:Zn x.q (Qd t)=false:=by rw [HG.out.k.has,hW0];rfl
  have hb3':=Qa hb3 (Qb (Below.refl w3.heap.size w3))
  have hG3:=Lib.hid (HG.out.later hb3')
  have hI3':QV w3.drew (some ⟨b,off,none⟩) gs:=QI.later hI3 (Qb (Below.refl _ _))
  have hnb:¬ (lab b = .q):=fun e=>by
   have:=hlt0.out b (by rw [e];decide)
   have:=hbW.out
   omega
  have e3:=keep hb3' c3
  have e0:=keep hb3' b0
  have e1:=keep hb3' b1
  have hbx:∀ k,lab k = .q->k ≠ p/\k ≠ w.heap.size:=fun k e=>⟨fun z=>(by rw [z,HG.out.m.lm] at e;cases e),fun z=>(by have:=hlt0.out k (by rw [e];decide);omega)⟩
  obtain ⟨qv,qes,hQ⟩:=hG3.out.m.q
  by_cases hfull:YF<=x.q.clock
  ·have hW:Ye c g x t=3:=by
    have hK:Ys x.q (Qd t) gs=7:=by
     rw [Ys,hidO,hRB,hHQ]
     simp [hfull]
    rw [Ye,hgs,hme.out,hD,hW0,hK]
    rfl
   have HE:Hid (Zl c g x t=x/\Z6 c g x t=[]/\QG x.q (Qd t) gs=x.q):=by
    show _/\_/\_
    refine ⟨by rw [Zl,if_neg (by omega)],by rw [Z6,hW];rfl,QmX ?_⟩
    rw [Ys,hidO,hRB,hHQ]
    simp [hfull]
   have hL:Hid (Calls Tryz.prog 87 #[.pointer (some ⟨E.qp,0,none⟩),.agg #[.int .i64 t.ses,.int .i64 t.seq],.slice (some ⟨b,off,none⟩) gs.length cap1] w3.drew (VQ w3.drew E.qB E.qp (QG x.q (Qd t) gs) (fun k=>lab k = .q) (.tuple #[.int .u64 0,.int .i64 7]))) :=
    Qhj hQ hI3' (by have:=hg4.out;omega) hidO hRB hHQ hfull hqn.out
   go_wp2
   go_region_held3 (fun w'=>w'.cell? ⟨p,3,none⟩=some (.pointer (some ⟨E.qp,0,none⟩))/\w'.cell? ⟨w.heap.size,0,none⟩=some (.int .i64 t.ses)/\w'.cell? ⟨w.heap.size,1,none⟩=some (.int .i64 t.seq))
    (first | exact ⟨e3,e0,e1⟩ | exact ⟨ho5.cell e3 (fun e=>(hbx _ e).1 rfl),ho5.cell e0 (fun e=>(hbx _ e).2 rfl),ho5.cell e1 (fun e=>(hbx _ e).2 rfl)⟩ | fail)
    ((go_at_call 87;(with_reducible refine hL.out.mono ?_);rintro e w5 ⟨rfl,hq5,ho5⟩))
   all_goals
    go_wp2
    go_end0
    refine ⟨rfl,?_⟩
    rw [HE.out.1,HE.out.2.1,List.append_nil]
    rw [HE.out.2.2] at hq5
    exact ⟨relab lab w3.drew w5 .q,E,ov,{ m:=hG3.out.m.setQ ho5 hq5,o:=hG3.out.o.rest ho5 (fun k e=>e) hG3.out.lt (by decide),k:=(HG.out.more (Nat.le_succ n)).k,cn:=(HG.out.more (Nat.le_succ n)).cn,tb:=hG3.out.tb.out ho5 (fun k e=>hG3.out.lb k (by rw [e];decide)) },(hstep.out _ hb3').trans (QE.relab ho5 (fun k e=>e) (by decide))⟩
  have hclk:x.q.clock<YF:=by omega
  have hK:Ys x.q (Qd t) gs=0:=by
   rw [Ys,hidO,hRB,hHQ]
   simp [hfull]
  have hW:Ye c g x t=4:=by
   rw [Ye,hgs,hme.out,hD,hW0,hK]
   rfl
  obtain ⟨n1,hn1⟩:∃ n1,n1=x.q.clock+1:=⟨_,rfl⟩
  have hL:Hid (Calls Tryz.prog 87 #[.pointer (some ⟨E.qp,0,none⟩),.agg #[.int .i64 t.ses,.int .i64 t.seq],.slice (some ⟨b,off,none⟩) gs.length cap1] w3.drew (VQ w3.drew E.qB E.qp (QG x.q (Qd t) gs) (fun k=>lab k = .q) (.tuple #[.int .u64 (n1:Int),.int .i64 0]))) :=
   QnW hQ HG.out.k.q hI3' hnb (by have:=hg4.out;omega) hidO hRB hHQ hclk hqn.out hn1
  clear hfull hclk hidO hRB hn1
  go_wp2
  go_region_held3 (fun w'=>w'.cell? ⟨p,3,none⟩=some (.pointer (some ⟨E.qp,0,none⟩))/\w'.cell? ⟨w.heap.size,0,none⟩=some (.int .i64 t.ses)/\w'.cell? ⟨w.heap.size,1,none⟩=some (.int .i64 t.seq))
   (first | exact ⟨e3,e0,e1⟩ | exact ⟨ho5.cell e3 (fun e=>(hbx _ e).1 rfl),ho5.cell e0 (fun e=>(hbx _ e).2 rfl),ho5.cell e1 (fun e=>(hbx _ e).2 rfl)⟩ | fail)
   ((go_at_call 87;(with_reducible refine hL.out.mono ?_);rintro e w5 ⟨rfl,hq5,ho5⟩))
  have hE5:Hid (∃ lab5,lab5 b = .no/\(∀ k,k<w3.drew.heap.size->lab5 k=lab k)/\(∀ k,lab5 k ≠ .no->k<w5.heap.size)/\Qo w5 B p c g lab5 { x with q:=QG x.q (Qd t) gs } E ov/\Q8 w5 B lab5 ov os/\QE w w5 lab lab5):=by
   have h1:=hG3.out.m.setQ ho5 hq5
   refine ⟨_,?_,fun k hk=>Xr hk,fun k hk=>(h1.lt k hk).2,h1,hG3.out.o.rest ho5 (fun k e=>e) hG3.out.lt (by decide),(hstep.out _ hb3').trans (QE.relab ho5 (fun k e=>e) (by decide))⟩
   have h2:=hbW.out
   have h3:=hb13.size
   have h4:w3.drew.heap.size=w3.heap.size:=rfl
   rw [Xr (by omega)]
   cases e:lab b
   case no=>rfl
   all_goals exact absurd (hlt0.out b (by rw [e];intro z;cases z)) (by omega)
  have htb5:Hid (Vh w5 B):=hG3.out.tb.out ho5 (fun k e=>hG3.out.lb k (by rw [e];decide))
  have h35:=ho5.size
  have hs35:Hid (W.heap.size<=w5.heap.size/\b<w5.heap.size):=by
   have h2:=hbW.out
   have h3:=hb13.size
   have h4:w3.drew.heap.size=w3.heap.size:=rfl
   have h6:=hb3.size
   show _/\_
   omega
  have y0:w5.cell? ⟨w.heap.size,0,none⟩=some (.int .i64 t.ses):=ho5.cell e0 (fun e=>(hbx _ e).2 rfl)
  have y1:w5.cell? ⟨w.heap.size,1,none⟩=some (.int .i64 t.seq):=ho5.cell e1 (fun e=>(hbx _ e).2 rfl)
  have y2:w5.cell? ⟨w.heap.size,2,none⟩=some (.slice At t.rds.length ca):=ho5.cell (keep hb3' b2) (fun e=>(hbx _ e).2 rfl)
  have y3:w5.cell? ⟨w.heap.size,3,none⟩=some (.slice Bt t.wrs.length cb):=ho5.cell (keep hb3' b3) (fun e=>(hbx _ e).2 rfl)
  have hI5:QV w5 (some ⟨b,off,none⟩) gs:=J2 hI3' ho5 (fun a e=>by cases e;exact hnb)
  have hTx5:Hid (QY w5 t At Bt):=VH (hHt.out.later hb3') ho5 (oA.not (O:=fun k=>lab k = .q) (fun k e=>hG3.out.lb k (by rw [e];decide)) (fun k e e2=>by rw [e] at e2;cases e2)) (oB.not (O:=fun k=>lab k = .q) (fun k e=>hG3.out.lb k (by rw [e];decide)) (fun k e e2=>by rw [e] at e2;cases e2))
  obtain ⟨lab5,hl5b,hl5,hl5lt,hM5,hR5,hS5⟩:=hE5.out
  replace hM5:=Lib.hid hM5
  replace hR5:=Lib.hid hR5
  replace hS5:=Lib.hid hS5
  replace hl5:=Lib.hid hl5
  replace hl5lt:=Lib.hid hl5lt
  clear hE5 ho5 hq5 e0 e1 e3 hbx hQ hG3 hI3 hI3' hI2 hI1 h35
  have hND:gs.Nodup:=by rw [<- hgs];exact Vg HG.out.k.cf
  have hNew:Hid (Calls Tryz.prog 88 #[.slice (some ⟨b,off,none⟩) gs.length cap1] w5.drew (QiO w5.drew gs)) :=
   QoA gs b off cap1 w5.drew (QI.later hI5 (Qb (Below.refl _ _))) (by have:=hg4.out;omega) hpos hND
  go_wp2
  go_region_held3 (fun w'=>w'.cell? ⟨w.heap.size,0,none⟩=some (.int .i64 t.ses)/\w'.cell? ⟨w.heap.size,1,none⟩=some (.int .i64 t.seq)/\w'.cell? ⟨w.heap.size,2,none⟩=some (.slice At t.rds.length ca)/\w'.cell? ⟨w.heap.size,3,none⟩=some (.slice Bt t.wrs.length cb))
   (first | exact ⟨y0,y1,y2,y3⟩ | exact ⟨keep hb6 y0,keep hb6 y1,keep hb6 y2,keep hb6 y3⟩ | exact ⟨keep (Qa hb6 (Qc _ _)) y0,keep (Qa hb6 (Qc _ _)) y1,keep (Qa hb6 (Qc _ _)) y2,keep (Qa hb6 (Qc _ _)) y3⟩ | fail)
   ((go_at_call 88;(with_reducible refine hNew.out.mono ?_);rintro e w6 ⟨tp,tg,tb,tc,rfl,hTal,hbb6⟩;have hb6:Below w5.heap.size w5 w6:=Qa (Qb (Below.refl w5.heap.size w5)) hbb6))
  go_wp2
  obtain ⟨q,hq⟩:∃ q,w6.heap.size=q:=⟨_,rfl⟩
  obtain ⟨w7,hw7⟩:∃ w7,w6.alloc (.cells #[.int .i64 t.ses,.int .i64 t.seq,.slice At t.rds.length ca,.slice Bt t.wrs.length cb,.slice (some ⟨b,off,none⟩) gs.length cap1,.pointer (some ⟨tp,0,none⟩)] 137)=w7:=⟨_,rfl⟩
  have hb67:Below w6.heap.size w6 w7:=by rw [<- hw7];exact Qc _ _
  have hblk7:w7.heap[q]? = some (.cells #[.int .i64 t.ses,.int .i64 t.seq,.slice At t.rds.length ca,.slice Bt t.wrs.length cb,.slice (some ⟨b,off,none⟩) gs.length cap1,.pointer (some ⟨tp,0,none⟩)] 137 (0,0)):=by rw [<- hw7, <- hq];exact heap_alloc_new w6 _
  have hs67:Hid (w7.heap.size=w6.heap.size+1):=by show _=_;rw [<- hw7];simp
  rw [hw7,hq]
  clear hw7
  have hb57:Below w5.heap.size w5 w7:=Qa hb6 hb67
  have hs57:Hid (w5.heap.size<=w7.heap.size):=hb57.size
  have hE7:Hid (∃ lab7,lab7 b = .one (Qd t)/\(∀ k,k<w5.heap.size->k ≠ b->lab7 k=lab5 k)/\(∀ k,lab7 k ≠ .no->k<w7.heap.size)/\Qo w7 B p c g lab7 { x with q:=QG x.q (Qd t) gs } E ov/\Q8 w7 B lab7 ov os/\Kx w7 B q (fun k=>lab7 k = .one (Qd t)) ⟨t,gs,[]⟩):=by
   have h0:=hM5.out.later hb57
   have hB5:=hM5.out.hB
   have hr:∀ k,w5.heap.size<=k->k<w7.heap.size->lab5 k = .no/\B<=k/\k<w7.heap.size:=fun k h1 h2=>⟨by
    cases e:lab5 k
    case no=>rfl
    all_goals exact absurd (hl5lt.out k (by rw [e];intro z;cases z)) (by omega),by omega,h2⟩
   have hbb:lab5 b = .no/\B<=b/\b<w7.heap.size:=⟨hl5b,by
    have h1:=hbW.out
    have h2:=(HG.out.lb p (by rw [HG.out.m.lm];decide))
    have h3:=(hlt0.out p (by rw [HG.out.m.lm];decide))
    omega,by
    have h1:=hs35.out
    have h2:=hb57.size
    omega⟩
   have hM:=h0.addLab (i:=Qd t) hbb hr hW0
   refine ⟨Z1 lab5 b w5.heap.size w7.heap.size (Qd t),by rw [Z1,if_pos (.inl rfl)],fun k h1 h2=>?_,fun k hk=>(hM.lt k hk).2,hM,(Q8.addLab ⟨Qi hR5.out.1 hb57,hR5.out.2⟩ hbb.1 (fun k h1 h2=>(hr k h1 h2).1)),?_⟩
   ·rw [Z1,if_neg (fun z=>z.elim h2 (fun z=>by omega))]
   have hT:=(hTal.low (base':=B) (by show B<=w5.heap.size;exact hB5)).later hb67
   have hw5d:w5.drew.heap.size=w5.heap.size:=rfl
   have h2:=hTal.hp
   have h3:=hTal.hg
   have h4:=hTal.hb
   have h5:=Yc hTal.c0
   have h6:tg<w6.heap.size:=by
    obtain ⟨b',off',e,hc⟩:=hTal.ints 0 hpos
    cases e
    exact Yc hc
   have h7:tb<w6.heap.size:=hTal.own.lt
   have h8:=hs67.out
   rw [hw5d] at h2 h3 h4
   simp only at h5
   have hone7:∀ k,lab k = .one (Qd t)->Z1 lab5 b w5.heap.size w7.heap.size (Qd t) k = .one (Qd t):=fun k e=>by
    have q1:=hlt0.out k (by rw [e];intro z;cases z)
    have q2:=hs35.out
    have q3:=hbW.out
    have q4:=hb3.size
    have q5:w3.drew.heap.size=w3.heap.size:=rfl
    rw [Z1,if_neg (fun z=>z.elim (fun z=>by omega) (fun z=>by omega)),hl5.out k (by omega)]
    exact e
   refine ⟨At,Bt,some ⟨b,off,none⟩,ca,cb,cap1,tp,tg,tb,tc,{ blk:=hblk7,tx:=hTx5.out.later hb57,oA:=oA.mono hone7,oA':=oB.mono hone7,gr:=QI.later hI5 hb57,lg:=fun a e=>?_,tal:=hT,lp:=?_,ltp:=?_,ltg:=?_,ltb:=?_ }⟩
   ·cases e;show Z1 _ _ _ _ _ _=_;rw [Z1,if_pos (.inl rfl)]
   ·show Z1 _ _ _ _ _ _=_;have:=hb6.size;rw [Z1,if_pos (.inr ⟨by omega,by omega⟩)]
   ·show Z1 _ _ _ _ _ _=_;rw [Z1,if_pos (.inr ⟨by omega,by omega⟩)]
   ·show Z1 _ _ _ _ _ _=_;rw [Z1,if_pos (.inr ⟨by omega,by omega⟩)]
   ·show Z1 _ _ _ _ _ _=_;rw [Z1,if_pos (.inr ⟨by omega,by omega⟩)]
  have htb7:Hid (Vh w7 B):=htb5.out.out (O:=fun _=>False) (Qg.of_below hb57) (fun _ e=>e.elim)
  have hI7:QV w7 (some ⟨b,off,none⟩) gs:=QI.later hI5 hb57
  replace y0:=keep hb57 y0
  replace y1:=keep hb57 y1
  obtain ⟨lab7,hl7b,hl7,hl7lt,hM7,hR7,hW7⟩:=hE7.out
  have hS7:Hid (QE w w7 lab lab7):=by
   refine ⟨fun k hk=>?_,hS5.out.out.trans' (Qg.of_below hb57)⟩
   have h1:=hs35.out
   have h2:=hbW.out
   rw [hl7 k (by omega) (by omega)]
   exact hS5.out.ext k hk
  clear hE7 y2 y3 hTal hb6 hb67 hblk7 hs67 hbb6 hb57
  obtain ⟨_,_,_,k3,_,k5,_⟩:=hM7.cs
  have hM7':=hM7.later (Qb (Below.refl w7.heap.size w7))
  have hW7':Kx w7.drew B q (fun k=>lab7 k = .one (Qd t)) ⟨t,gs,[]⟩:=hW7.out (O:=fun _=>False) (Qg.of_below (Qb (Below.refl w7.heap.size w7))) (fun _ _ e=>e) (fun _ e=>e.elim)
  obtain ⟨w8,hrun,hm8,ht8⟩:=Za.put VX hM7'.hw Tryz.underlying102 (by have:=HG.out.cn.nw;unfold maxLen;omega) (Qd t) hok (.pointer (some ⟨q,0,none⟩))
  replace hrun:(Instr.mapUpdate 102 (.map (some E.mw)) (.agg #[.int .i64 t.ses,.int .i64 t.seq]) (.pointer (some ⟨q,0,none⟩))).run Tryz.prog w7.drew = .ok () w8:=hrun
  have ho8:Qg (fun k=>k=E.mw) w7.drew w8:=Qg.of_turned ht8
  have hM8:=Lib.hid (hM7'.addOne ht8 hm8 hW7')
  have hR8:=Lib.hid (Q8.rest ⟨Qi hR7.1 (Qb (Below.refl w7.heap.size w7)),hR7.2⟩ ho8 (l:=.mw) (fun k e=>by rw [e];exact hM7.lmw) (fun k hk=>(hM7'.lt k hk).2) (by decide))
  have hS8:=Lib.hid (((hS7.out).trans (QE.below (Qb (Below.refl w7.heap.size w7)))).trans (QE.relab ho8 (l:=.mw) (fun k e=>by rw [e];exact hM7.lmw) (by decide)))
  have htb8:Hid (Vh w8 B):=(htb7.out.out (O:=fun _=>False) (Qg.of_below (Qb (Below.refl w7.heap.size w7))) (fun _ e=>e.elim)).out ho8 (fun k e=>by rw [e];exact (hM7.lt _ (by rw [hM7.lmw];decide)).1)
  have hne:p ≠ E.mw/\w.heap.size ≠ E.mw/\b ≠ E.mw:=by
   have h1:=hM7.lmw
   refine ⟨fun z=>(by rw [<- z,hM7.lm] at h1;cases h1),fun z=>?_,fun z=>?_⟩
   ·have h2:=hS7.out.ext
    have h3:=HG.out.m.lmw
    have:=hlt0.out E.mw (by rw [h3];decide)
    omega
   ·have h3:=HG.out.m.lmw
    have:=hlt0.out E.mw (by rw [h3];decide)
    have:=hbW.out
    omega
  have hI8:QV w8 (some ⟨b,off,none⟩) gs:=J2 (QI.later hI7 (Qb (Below.refl w7.heap.size w7))) ho8 (fun a e=>by cases e;exact hne.2.2)
  go_region_held3 (fun w'=>w'.cell? ⟨p,5,none⟩=some (.map (some E.mw))/\w'.cell? ⟨w.heap.size,0,none⟩=some (.int .i64 t.ses)/\w'.cell? ⟨w.heap.size,1,none⟩=some (.int .i64 t.seq))
   (first | exact ⟨k5,y0,y1⟩ | exact ⟨ho8.cell k5 hne.1,ho8.cell y0 hne.2.1,ho8.cell y1 hne.2.1⟩ | fail)
   (fail)
  have y0':w8.cell? ⟨w.heap.size,0,none⟩=some (.int .i64 t.ses):=ho8.cell y0 hne.2.1
  have y1':w8.cell? ⟨w.heap.size,1,none⟩=some (.int .i64 t.seq):=ho8.cell y1 hne.2.1
  clear y0 y1 k3 k5 hrun hm8 ht8 hM7 hR7 hW7 hM7' hW7'
  have hAg:Hid (Calls Tryz.prog 86 #[.pointer (some ⟨p,0,none⟩),.pointer (some ⟨q,0,none⟩)] w8 (UZ w8 B p c g (relab lab7 w7.drew w8 .mw) { x with q:=QG x.q (Qd t) gs,wt:=Qs x.wt (Qd t) ⟨t,gs,[]⟩ } { E with nw:=E.nw+1,kw:=Qs E.kw (Qd t) (.pointer (some ⟨q,0,none⟩)),pp:=fun j=>if j=Qd t then q else E.pp j } (os ++ YQ g (QG x.q (Qd t) gs) (Qd t) ⟨t,gs,[]⟩))):=by
   obtain ⟨p1,p2,p3⟩:=V4 hK
   have h5:=HG.out.k.g4
   have hc:=HG.out.k.cnt
   have:=QiS hM8.out hR8.out (v:=⟨t,gs,[]⟩) (by show Qe (Qs x.wt (Qd t) _) (Qd t)=_;rw [Qw,if_pos rfl]) hg4.out (by omega) (by rw [Qdt];show Qd t ∈ XV (QG x.q (Qd t) gs);rw [p1.mem_iff];simp) ⟨hND,List.Pairwise.nil,fun v hv=>by cases hv⟩ HG.out.k.g0 h5 (by show (QG x.q (Qd t) gs).l.length<_;rw [p2];omega)
   dsimp only at this
   rw [if_pos rfl] at this
   exact this
  go_wp2_with (go_at_call 86;(with_reducible refine hAg.out.mono ?_);rintro e w9 ⟨rfl,hT9⟩;replace hT9:=Lib.hid hT9)
  have HL0:Hid (ZK w w9 w.heap.size B p c g n lab b off q gs t { x with q:=QG x.q (Qd t) gs,wt:=Qs x.wt (Qd t) ⟨t,gs,[]⟩ } (os ++ YQ g (QG x.q (Qd t) gs) (Qd t) ⟨t,gs,[]⟩)):=by
   obtain ⟨⟨lab9,ov9,hM9,hR9,hE9⟩,ho9⟩:=hT9.out
   obtain ⟨p1,p2,p3⟩:=V4 hK
   have hlm:=hM8.out.lt
   have hbs:b<w8.heap.size:=by
    obtain ⟨b',off',e,hc⟩:=hI8 0 hpos
    cases e
    exact Yc hc
   have hxs:w.heap.size<w8.heap.size:=Yc y0'
   have hl8b:relab lab7 w7.drew w8 .mw b = .one (Qd t):=(Xr (w:=w7.drew) (hl7lt b (by rw [hl7b];intro z;cases z))).trans hl7b
   have hl7x:lab7 w.heap.size = .no:=by
    have h1:=hbW.out
    have h2:=hs35.out
    have h3:w3.drew.heap.size=w3.heap.size:=rfl
    have h4:=hb3.size
    rw [hl7 w.heap.size (by omega) (by omega),hl5.out w.heap.size (by omega)]
    cases e:lab w.heap.size
    case no=>rfl
    all_goals exact absurd (hlt0.out w.heap.size (by rw [e];intro z;cases z)) (Nat.lt_irrefl _)
   have hx7:w.heap.size<w7.drew.heap.size:=by
    have h1:=hs35.out
    have h3:w7.drew.heap.size=w7.heap.size:=rfl
    have h4:=hs57.out
    omega
   have hl8x:relab lab7 w7.drew w8 .mw w.heap.size = .no:=(Xr (w:=w7.drew) hx7).trans hl7x
   have hO9:∀ k,relab lab7 w7.drew w8 .mw k = .m \/ relab lab7 w7.drew w8 .mw k = .out->B<=k:=fun k e=>(hlm k (by rcases e with e | e <;> (rw [e];decide))).1
   have hnb9:¬ (relab lab7 w7.drew w8 .mw b = .m \/ relab lab7 w7.drew w8 .mw b = .out):=by rw [hl8b];intro e;rcases e with e | e <;> cases e
   have hnx9:¬ (relab lab7 w7.drew w8 .mw w.heap.size = .m \/ relab lab7 w7.drew w8 .mw w.heap.size = .out):=by rw [hl8x];intro e;rcases e with e | e <;> cases e
   have hcn:=HG.out.cn
   exact ⟨lab9,_,ov9,{ m:=hM9,o:=hR9,st:=hS8.out.trans (QE.tell hE9 ho9),cn:=⟨Nat.succ_le_succ hcn.nw,by show E.nd+(QG x.q (Qd t) gs).l.length<=_;rw [p2];have:=hcn.nd;omega,Nat.le_succ_of_le hcn.ns,Nat.le_succ_of_le hcn.nv,hcn.nN,Nat.le_succ_of_le hcn.nl⟩,pq:=if_pos rfl,lb:=(hE9 b hbs).trans hl8b,lx:=(hE9 _ hxs).trans hl8x,lxw:=Nat.lt_of_lt_of_le hxs ho9.size,gr:=J2 hI8 ho9 (fun a e=>by cases e;exact hnb9),x0:=ho9.cell y0' hnx9,x1:=ho9.cell y1' hnx9,tb:=htb8.out.out ho9 hO9 }⟩
  obtain ⟨os9,hos9⟩:∃ os9,os ++ YQ g (QG x.q (Qd t) gs) (Qd t) ⟨t,gs,[]⟩=os9:=⟨_,rfl⟩
  rw [hos9] at HL0
  have hgr:Hid (∀ y ∈ gs,0<=y/\y<4):=fun y hy=>by
   have h1:=(XO (t:=t) HG.out.k.cf).2.1 y (by rw [hgs];exact hy)
   have h2:=ZI HG.out.k.cf
   omega
  have hfold:Hid (∀ k,Jc ((gs.take k).foldl (Qx (Qd t)) (QG x.q (Qd t) gs,x.st)).1/\((gs.take k).foldl (Qx (Qd t)) (QG x.q (Qd t) gs,x.st)).1.l.length<900000/\∀ z s,Qe ((gs.take k).foldl (Qx (Qd t)) (QG x.q (Qd t) gs,x.st)).2 z=some s->s<18446744073709551616):=fun k=>by
   obtain ⟨r1,r2,r3,r4,r5⟩:=Kg (i:=Qd t) (gs.take k) (Qc9 HG.out.k.q (Qd t) gs) HG.out.k.st
   refine ⟨r1,?_,r5⟩
   have:=(V4 hK).2.1
   have:=HG.out.k.cnt
   omega
  have hI9:QV w9 (some ⟨b,off,none⟩) gs:=HL0.out.xs.2.2
  go_wp2
  go_loopw [102] (fun i wr=>∃ k:Nat,k<=gs.length/\i = .int .i64 k/\Hid (ZK w wr w.heap.size B p c g n lab b off q gs t { x with q:=((gs.take k).foldl (Qx (Qd t)) (QG x.q (Qd t) gs,x.st)).1,st:=((gs.take k).foldl (Qx (Qd t)) (QG x.q (Qd t) gs,x.st)).2,wt:=Qs x.wt (Qd t) ⟨t,gs,[]⟩ } os9)) (fun i _=>gs.length-(intOf i).toNat)
  case atStart=>exact ⟨0,Nat.zero_le _,rfl,HL0⟩
  case round =>
   obtain ⟨k,hk,rfl,HL⟩:=hrel
   by_cases hlt:k<gs.length
   ·obtain ⟨x0,x1,hI⟩:=HL.out.xs
    obtain ⟨b',off',gk,e',d0,HX⟩:=QV.at' hI hlt
    cases e'
    obtain ⟨qp,ms,mv,e3,e7,e8⟩:=HL.out.cs
    have hgk:0<=gk/\gk<4:=hgr.out gk (by
     have:=HX.out
     rw [List.getD_eq_getElem?_getD,List.getElem?_eq_getElem hlt] at this
     rw [<- this]
     exact List.getElem_mem hlt)
    obtain ⟨Fk,hFk⟩:∃ F,(gs.take k).foldl (Qx (Qd t)) (QG x.q (Qd t) gs,x.st)=F:=⟨_,rfl⟩
    have hf:=Lib.hid (hfold.out k)
    have hF1:Hid ((gs.take (k+1)).foldl (Qx (Qd t)) (QG x.q (Qd t) gs,x.st)=Qx (Qd t) Fk gk):=by
     have h1:=HX.out
     rw [List.getD_eq_getElem?_getD,List.getElem?_eq_getElem hlt] at h1
     simp only [Option.getD_some] at h1
     show _=_
     rw [List.take_succ_eq_append_getElem hlt,List.foldl_append,hFk,h1]
     rfl
    rw [hFk] at HL hf
    obtain ⟨sB,hsB⟩:∃ sB,(Qe Fk.2 (Qd t,gk)).isSome=sB:=⟨_,rfl⟩
    obtain ⟨sv,hsv⟩:∃ sv,(Qe Fk.2 (Qd t,gk)).getD 0=sv:=⟨_,rfl⟩
    have ls:∀ nq,(Instr.lookup 104 (.map (some ms)) (.agg #[.int .i64 t.ses,.int .i64 t.seq,.int .i64 gk]) true).run Tryz.prog (wr.drewN nq) = .ok (.tuple #[.int .u64 (sv:Int),.bool sB]) (wr.drewN nq):=fun nq=>by
     have:=HL.out.lookS hid hgk e7 (Qj (Below.refl wr.heap.size wr) nq)
     dsimp only at this
     rw [hsB,hsv] at this
     exact this
    go_wp2
    go_quiet (fail)
    obtain ⟨w11,hw11⟩:∃ w11,wr.drewN nq=w11:=⟨_,rfl⟩
    have hb11:Below wr.heap.size wr w11:=by rw [<- hw11];exact Qj (Below.refl _ _) _
    rw [hw11]
    clear hw11 ls
    have HL11:=Lib.hid (HL.out.later hb11)
    replace e3:=keep hb11 e3
    replace e7:=keep hb11 e7
    replace x0:=keep hb11 x0
    replace x1:=keep hb11 x1
    cases sB
    case true =>
     obtain ⟨s1,hs1⟩:=Option.isSome_iff_exists.1 hsB
     have es:sv=s1:=by rw [<- hsv,hs1];rfl
     have hsb:sv<18446744073709551616:=by rw [es];exact hf.out.2.2 _ _ hs1
     have hSt:Hid (Qx (Qd t) Fk gk=(QZ Fk.1 (Qd t) gk sv,Zc Fk.2 (Qd t,gk))):=by show _=_;rw [Qx,hs1,es]
     have hLn:=Lib.hid (HL11.out.learn (gk:=gk) (s:=sv) hf.out.1 hf.out.2.1 hid hgk hsb e3)
     clear hs1 hsB hsv es
     go_wp2
     go_region_held3 (fun w'=>w'.cell? ⟨p,3,none⟩=some (.pointer (some ⟨qp,0,none⟩))/\w'.cell? ⟨w.heap.size,0,none⟩=some (.int .i64 t.ses)/\w'.cell? ⟨w.heap.size,1,none⟩=some (.int .i64 t.seq))
      (first | exact ⟨e3,x0,x1⟩ | exact ⟨hk12 _ _ _ (.inl rfl) e3,hk12 _ _ _ (.inr rfl) x0,hk12 _ _ _ (.inr rfl) x1⟩ | fail)
      ((go_at_call 89;(with_reducible refine hLn.out.mono ?_);rintro e w12 ⟨⟨z12,rfl⟩,HL12,hk12⟩))
     replace e7:=hk12 _ _ _ (.inl rfl) e7
     replace x0:=hk12 _ _ _ (.inr rfl) x0
     replace x1:=hk12 _ _ _ (.inr rfl) x1
     obtain ⟨w13,hrun,HL13,hk13⟩:=HL12.delS hid hgk e7
     replace HL13:=Lib.hid HL13
     go_wp2
     go_region_held3 (fun w'=>w'.cell? ⟨p,7,none⟩=some (.map (some ms))/\w'.cell? ⟨w.heap.size,0,none⟩=some (.int .i64 t.ses)/\w'.cell? ⟨w.heap.size,1,none⟩=some (.int .i64 t.seq))
      (first | exact ⟨e7,x0,x1⟩ | exact ⟨hk13 _ _ _ (.inl rfl) e7,hk13 _ _ _ (.inr rfl) x0,hk13 _ _ _ (.inr rfl) x1⟩ | fail)
      (fail)
     have HL2:Hid (ZK w w13 w.heap.size B p c g n lab b off q gs t { x with q:=((gs.take (k+1)).foldl (Qx (Qd t)) (QG x.q (Qd t) gs,x.st)).1,st:=((gs.take (k+1)).foldl (Qx (Qd t)) (QG x.q (Qd t) gs,x.st)).2,wt:=Qs x.wt (Qd t) ⟨t,gs,[]⟩ } os9):=by
      show ZK _ _ _ _ _ _ _ _ _ _ _ _ _ _ _ _
      rw [hF1.out,hSt.out]
      exact HL13.out
     clear HL13 HL12 HL11 HL hf
     have h4:=hg4.out
     go_wp2
     go_roundw
     case rel=>exact ⟨k+1,by omega,by go_num,HL2⟩
     case measure=>simp [intOf];omega
    case false =>
     have hs0:Qe Fk.2 (Qd t,gk)=none:=by
      cases e:Qe Fk.2 (Qd t,gk) with
      | none=>rfl
      | some z=>rw [e] at hsB;cases hsB
     have hSt:Hid (Qx (Qd t) Fk gk=(Fk.1,Zc Fk.2 (Qd t,gk))):=by show _=_;rw [Qx,hs0]
     clear hs0 hsB hsv
     obtain ⟨w13,hrun,HL13,hk13⟩:=HL11.out.delS hid hgk e7
     replace HL13:=Lib.hid HL13
     go_wp2
     go_region_held3 (fun w'=>w'.cell? ⟨p,7,none⟩=some (.map (some ms))/\w'.cell? ⟨w.heap.size,0,none⟩=some (.int .i64 t.ses)/\w'.cell? ⟨w.heap.size,1,none⟩=some (.int .i64 t.seq))
      (first | exact ⟨e7,x0,x1⟩ | exact ⟨hk13 _ _ _ (.inl rfl) e7,hk13 _ _ _ (.inr rfl) x0,hk13 _ _ _ (.inr rfl) x1⟩ | fail)
      (fail)
     have HL2:Hid (ZK w w13 w.heap.size B p c g n lab b off q gs t { x with q:=((gs.take (k+1)).foldl (Qx (Qd t)) (QG x.q (Qd t) gs,x.st)).1,st:=((gs.take (k+1)).foldl (Qx (Qd t)) (QG x.q (Qd t) gs,x.st)).2,wt:=Qs x.wt (Qd t) ⟨t,gs,[]⟩ } os9):=by
      show ZK _ _ _ _ _ _ _ _ _ _ _ _ _ _ _ _
      rw [hF1.out,hSt.out]
      exact HL13.out
     clear HL13 HL11 HL hf
     have h4:=hg4.out
     go_wp2
     go_roundw
     case rel=>exact ⟨k+1,by omega,by go_num,HL2⟩
     case measure=>simp [intOf];omega
   ·have ek:gs.take k=gs:=List.take_of_length_le (by omega)
    rw [ek] at HL
    obtain ⟨F,hF⟩:∃ F,gs.foldl (Qx (Qd t)) (QG x.q (Qd t) gs,x.st)=F:=⟨_,rfl⟩
    rw [hF] at HL
    clear ek
    go_wp2
    go_loopw [139] (fun i wr=>∃ k:Nat,k<=gs.length/\i = .int .i64 k/\Hid (ZK w wr w.heap.size B p c g n lab b off q gs t { x with q:=F.1,st:=F.2,wt:=Qs x.wt (Qd t) ⟨t,gs,((gs.take k).foldl (Q1 gs (Qd t)) ([],x.vo)).1⟩,vo:=((gs.take k).foldl (Q1 gs (Qd t)) ([],x.vo)).2 } os9)) (fun i _=>gs.length-(intOf i).toNat)
    case atStart=>exact ⟨0,Nat.zero_le _,rfl,HL⟩
    case round =>
     obtain ⟨k2,hk2,rfl,HM⟩:=hrel
     by_cases hlt2:k2<gs.length
     ·obtain ⟨wq,rfl⟩:∃ wq:World,wq=wr:=⟨_,rfl⟩
      obtain ⟨x0,x1,hI⟩:=HM.out.xs
      obtain ⟨b',off',gk,e',d0,HX⟩:=QV.at' hI hlt2
      cases e'
      obtain ⟨qp,ms,mv,e3,e7,e8⟩:=HM.out.cs
      have hgk:0<=gk/\gk<4:=hgr.out gk (by
       have:=HX.out
       rw [List.getD_eq_getElem?_getD,List.getElem?_eq_getElem hlt2] at this
       rw [<- this]
       exact List.getElem_mem hlt2)
      obtain ⟨Vk,hVk⟩:∃ V,(gs.take k2).foldl (Q1 gs (Qd t)) ([],x.vo)=V:=⟨_,rfl⟩
      have hTl:Hid (Yh gs Vk.1):=by rw [<- hVk];exact KF _ ⟨hND,List.Pairwise.nil,fun v hv=>by cases hv⟩
      have hV1:Hid ((gs.take (k2+1)).foldl (Q1 gs (Qd t)) ([],x.vo)=Q1 gs (Qd t) Vk gk):=by
       have h1:=HX.out
       rw [List.getD_eq_getElem?_getD,List.getElem?_eq_getElem hlt2] at h1
       simp only [Option.getD_some] at h1
       show _=_
       rw [List.take_succ_eq_append_getElem hlt2,List.foldl_append,hVk,h1]
       rfl
      rw [hVk] at HM
      obtain ⟨sB,hsB⟩:∃ sB,(Qe Vk.2 (Qd t,gk)).isSome=sB:=⟨_,rfl⟩
      obtain ⟨sv,hsv⟩:∃ sv,(Qe Vk.2 (Qd t,gk)).getD false=sv:=⟨_,rfl⟩
      have ls:∀ nq,(Instr.lookup 105 (.map (some mv)) (.agg #[.int .i64 t.ses,.int .i64 t.seq,.int .i64 gk]) true).run Tryz.prog (wq.drewN nq) = .ok (.tuple #[.bool sv,.bool sB]) (wq.drewN nq):=fun nq=>by
       have:=HM.out.lookV hid hgk e8 (Qj (Below.refl wq.heap.size wq) nq)
       dsimp only at this
       rw [hsB,hsv] at this
       exact this
      go_wp2
      go_quiet (fail)
      obtain ⟨w11,hw11⟩:∃ w11,wq.drewN nq=w11:=⟨_,rfl⟩
      have hb11:Below wq.heap.size wq w11:=by rw [<- hw11];exact Qj (Below.refl _ _) _
      rw [hw11]
      clear hw11 ls
      have HL11:=Lib.hid (HM.out.later hb11)
      replace e8:=keep hb11 e8
      replace x0:=keep hb11 x0
      replace x1:=keep hb11 x1
      cases sB
      case true =>
       obtain ⟨s1,hs1⟩:=Option.isSome_iff_exists.1 hsB
       have es:sv=s1:=by rw [<- hsv,hs1];rfl
       have hSt:Hid (Q1 gs (Qd t) Vk gk=(ZS gs Vk.1 gk sv,Zc Vk.2 (Qd t,gk))):=by show _=_;rw [Q1,hs1,es]
       obtain ⟨tp,e5,hPt⟩:=HL11.out.put (v:=⟨t,gs,Vk.1⟩) (by show Qe (Qs x.wt (Qd t) _) (Qd t)=_;rw [Qw,if_pos rfl]) hTl.out hg4.out hgk sv
       replace hPt:=Lib.hid hPt
       clear hs1 hsB hsv es
       go_wp2_with (go_at_call 90;(with_reducible refine hPt.out.mono ?_);rintro e w12 ⟨⟨z12,rfl⟩,HL12,hk12⟩)
       replace e8:=hk12 _ _ _ (.inl rfl) e8
       replace x0:=hk12 _ _ _ (.inr (.inl rfl)) x0
       replace x1:=hk12 _ _ _ (.inr (.inl rfl)) x1
       obtain ⟨w13,hrun,HL13,hk13⟩:=HL12.delV hid hgk e8
       replace HL13:=Lib.hid HL13
       go_region_held3 (fun w'=>w'.cell? ⟨p,8,none⟩=some (.map (some mv))/\w'.cell? ⟨w.heap.size,0,none⟩=some (.int .i64 t.ses)/\w'.cell? ⟨w.heap.size,1,none⟩=some (.int .i64 t.seq))
        (first | exact ⟨e8,x0,x1⟩ | exact ⟨hk13 _ _ _ (.inl rfl) e8,hk13 _ _ _ (.inr rfl) x0,hk13 _ _ _ (.inr rfl) x1⟩ | fail)
        (fail)
       have HL2:Hid (ZK w w13 w.heap.size B p c g n lab b off q gs t { x with q:=F.1,st:=F.2,wt:=Qs x.wt (Qd t) ⟨t,gs,((gs.take (k2+1)).foldl (Q1 gs (Qd t)) ([],x.vo)).1⟩,vo:=((gs.take (k2+1)).foldl (Q1 gs (Qd t)) ([],x.vo)).2 } os9):=by
        show ZK _ _ _ _ _ _ _ _ _ _ _ _ _ _ _ _
        have h1:=HL13.out
        dsimp only at h1
        rw [QjV] at h1
        rw [hV1.out,hSt.out]
        exact h1
       clear HL13 HL12 HL11 HM
       have h4:=hg4.out
       go_wp2
       go_roundw
       case rel=>exact ⟨k2+1,by omega,by go_num,HL2⟩
       case measure=>simp [intOf];omega
      case false =>
       have hs0:Qe Vk.2 (Qd t,gk)=none:=by
        cases e:Qe Vk.2 (Qd t,gk) with
        | none=>rfl
        | some z=>rw [e] at hsB;cases hsB
       have hSt:Hid (Q1 gs (Qd t) Vk gk=(Vk.1,Zc Vk.2 (Qd t,gk))):=by show _=_;rw [Q1,hs0]
       clear hs0 hsB hsv
       obtain ⟨w13,hrun,HL13,hk13⟩:=HL11.out.delV hid hgk e8
       replace HL13:=Lib.hid HL13
       go_wp2
       go_region_held3 (fun w'=>w'.cell? ⟨p,8,none⟩=some (.map (some mv))/\w'.cell? ⟨w.heap.size,0,none⟩=some (.int .i64 t.ses)/\w'.cell? ⟨w.heap.size,1,none⟩=some (.int .i64 t.seq))
        (first | exact ⟨e8,x0,x1⟩ | exact ⟨hk13 _ _ _ (.inl rfl) e8,hk13 _ _ _ (.inr rfl) x0,hk13 _ _ _ (.inr rfl) x1⟩ | fail)
        (fail)
       have HL2:Hid (ZK w w13 w.heap.size B p c g n lab b off q gs t { x with q:=F.1,st:=F.2,wt:=Qs x.wt (Qd t) ⟨t,gs,((gs.take (k2+1)).foldl (Q1 gs (Qd t)) ([],x.vo)).1⟩,vo:=((gs.take (k2+1)).foldl (Q1 gs (Qd t)) ([],x.vo)).2 } os9):=by
        show ZK _ _ _ _ _ _ _ _ _ _ _ _ _ _ _ _
        rw [hV1.out,hSt.out]
        exact HL13.out
       clear HL13 HL11 HM
       have h4:=hg4.out
       go_wp2
       go_roundw
       case rel=>exact ⟨k2+1,by omega,by go_num,HL2⟩
       case measure=>simp [intOf];omega
     ·have ek:gs.take k2=gs:=List.take_of_length_le (by omega)
      rw [ek] at HM
      clear ek HL
      go_wp2
      go_end0
      obtain ⟨lab',E',ov',hB⟩:=HM.out
      refine ⟨rfl,?_⟩
      have hM1:Zl c g x t = { x with q:=F.1,st:=F.2,wt:=Qs x.wt (Qd t) ⟨t,gs,(gs.foldl (Q1 gs (Qd t)) ([],x.vo)).1⟩,vo:=(gs.foldl (Q1 gs (Qd t)) ([],x.vo)).2 }:=by
       rw [Zl,if_pos hW,hgs,Qe0,hF]
      have hO1:os ++ Z6 c g x t=os9:=by
       rw [<- hos9,Z6,hW,hgs];rfl
      have hk:=Qam HG.out.k hf
      rw [hM1] at hk ⊢
      rw [hO1]
      exact ⟨lab',E',ov',{ m:=hB.m,o:=hB.o,k:=hk,cn:=hB.cn,tb:=hB.tb },hB.st⟩
theorem Qn3 {w:World} {B p n:Nat} {c:Ql} {g:Int} {lab:Nat->QL} {x:Qk} {E:Q9} {ov:Value} {os:List Qv} (h:ZW w B p c g n lab x E ov os) (t:Tx) (At Bt:Option Addr) (ca cb:Nat) (ht:QY w t At Bt) (oA:J3 B t.rds.length (fun k=>lab k = .one (Qd t)) At) (oB:J3 B t.wrs.length (fun k=>lab k = .one (Qd t)) Bt) (hf:Qh t=true) (hn:n<=2000) (hos:os.length<=899900) :
  Calls Tryz.prog 41 #[.pointer (some ⟨p,0,none⟩),XA t At Bt ca cb] w (QcE w B p c g n lab x os t):=by
 cases h1:(Qf c t).contains g
 ·exact QaG h t At Bt ca cb ht oA oB hf hn hos (.inl h1)
 ·cases h2:Qe x.dc (Qd t) with
  | some d=>exact QaG h t At Bt ca cb ht oA oB hf hn hos (.inr (.inl (by rw [h2];rfl)))
  | none =>
   cases h3:Qe x.wt (Qd t) with
   | some d=>exact QaG h t At Bt ca cb ht oA oB hf hn hos (.inr (.inr (by rw [h3];rfl)))
   | none=>exact Qiq h t At Bt ca cb ht oA oB hf hn hos h1 h2 h3
end Go.Proofs.YtcldpmkhpmlcbaaGreatDoor
