/- part -/
import Derived.Test.YtcldpmkhpmlcbaaGreatDoorGrAdv17
import Derived.Test.YtcldpmkhpmlcbaaGreatDoorJ18
import Derived.Test.YtcldpmkhpmlcbaaGreatDoorJ13
import Derived.Test.YtcldpmkhpmlcbaaGreatDoorJ4
import Derived.Test.YtcldpmkhpmlcbaaGreatDoorJ7
import Derived.Carry
import Derived.Test.YtcldpmkhpmlcbaaGreatDoorJ20
set_option linter.unusedVariables false
set_option linter.unusedSimpArgs false
namespace Go.Proofs.YtcldpmkhpmlcbaaGreatDoor
open Go.RowKit Go.Shelf Go.Maps
theorem Qev:(Tryz.prog.info? 41).map (fun i=>(i.zero,i.size,i.bytes))=some (some (.agg #[.int .i64 0,.int .i64 0,.int .i64 0,.slice none 0 0,.slice none 0 0,.int .i64 0,.int .i64 0,.int .i64 0,.int .u64 0,.bool false]),10,112):=by kernel_rfl
def Jw (a:Q2):Obj:=.cells a.vs 41
theorem QhE (w5:World) (a:Q2):∀ j u,a.vs.toList[j]? = some u->(w5.alloc (Jw a)).cell? ((⟨w5.heap.size,0,none⟩:Addr).add j)=some u:=World.news_of_block (heap_alloc_new w5 (Jw a))
theorem Qb7 {a:Q2}:∀ u ∈ a.vs.toList,u.oneCell'=true:=fun u hu=>by
 simp [Q2.vs] at hu
 rcases hu with rfl | rfl | rfl | rfl | rfl | rfl | rfl | rfl | rfl | rfl <;> rfl
section
variable {w5 w15:World} {B p:Nat} {c:Ql} {g:Int} {lab:Nat->QL} {x:Qk} {E:Q9} {ov v':Value} {n':Nat} {cl':List Value}
theorem Qo.setLog (h:Qo w5 B p c g lab x E ov) (hg:w5.grownBy w15 E.lv.ownBlock) (hr:w15.ownsRow B 41 10 v' n' cl') (hv:v'.ownBlock=E.lv.ownBlock \/ v'.ownBlock=some w5.heap.size) :
  Qo (w15.setCell ⟨p,10,none⟩ v') B p c g (relab lab w5 w15 .log) x { E with lv:=v',nl:=n',cl:=cl' } ov/\Qg (fun k=>lab k = .log) w5 w15:=by
 have ho:Qg (fun k=>E.lv.ownBlock=some k) w5 w15:=Qg.of_grown hg (fun k e=>e)
 obtain ⟨R,hb,hp⟩:=h.rest ho (fun k e=>h.ll k e) (l:=.log) (by decide) (by decide)
 have hll:∀ k,v'.ownBlock=some k->relab lab w5 w15 .log k = .log:=fun k e=>by
  have h2:=(hr.lt k e).2
  rcases hv with hv | hv
  ·rw [hv] at e;exact R.ll k e
  ·rw [hv] at e
   injection e with e
   rw [relab,if_pos ⟨by omega,h2⟩]
 have hR:MachR w15 B c (relab lab w5 w15 .log) x { E with lv:=v',nl:=n',cl:=cl' }:={ cfg:=R.cfg,oA:=R.oA,oA':=R.oA',q:=R.q (by decide),s:=R.s (by decide),hw:=R.hw (by decide),hd:=R.hd (by decide),hs:=R.hs (by decide),hv:=R.hv (by decide),lmw:=R.lmw,lmd:=R.lmd,lms:=R.lms,lmv:=R.lmv,kw:=R.kw,kd:=R.kd,ks:=R.ks,kv:=R.kv,wt:=fun i v e=>R.wt i v (by intro z;cases z) e,a:=R.a (by decide),la:=R.la,log:=hr,ll:=hll,lt:=R.lt }
 have hBp:∀ k,k=p->B<=k:=fun k e=>by rw [e];exact (R.lt p (by rw [hp];decide)).1
 have hR2:=hR.out (QQ w15 p 10 v') (fun k _ h2 _ e=>h2 (by rw [e];exact hp)) hBp
 exact ⟨{ hR2 with blk:=ZJ v' hb,lm:=hp },ho.mono (fun k e=>h.ll k e)⟩
end
theorem ZW.logged {w w15:World} {B p n:Nat} {c:Ql} {g:Int} {lab:Nat->QL} {x:Qk} {E:Q9} {ov v':Value} {os:List Qv} (h:ZW w B p c g n lab x E ov os) {o:Obj} {cl':List Value} (hg:(w.alloc o).grownBy w15 E.lv.ownBlock) (hr:w15.ownsRow B 41 10 v' (E.nl+1) cl') (hv:v'.ownBlock=E.lv.ownBlock \/ v'.ownBlock=some (w.alloc o).heap.size) :
  ∃ lab' E',ZW ((w15.setCell ⟨p,10,none⟩ v').setCell ⟨p,11,none⟩ (.slice none 0 0)) B p c g (n+1) lab' x E' (.slice none 0 0) []/\QE w ((w15.setCell ⟨p,10,none⟩ v').setCell ⟨p,11,none⟩ (.slice none 0 0)) lab lab'/\Qg (fun k=>lab k = .log \/ k=p) w ((w15.setCell ⟨p,10,none⟩ v').setCell ⟨p,11,none⟩ (.slice none 0 0)):=by
 have h1:=h.later (Qc w o)
 obtain ⟨hM,ho⟩:=h1.m.setLog hg hr hv
 have hM2:=hM.setOut (.slice none 0 0)
 have oP:=QQ w15 p 10 v'
 have oQ:=QQ (w15.setCell ⟨p,10,none⟩ v') p 11 (.slice none 0 0)
 have ho2:Qg (fun k=>lab k = .log \/ k=p) (w.alloc o) ((w15.setCell ⟨p,10,none⟩ v').setCell ⟨p,11,none⟩ (.slice none 0 0)):=((ho.mono fun k e=>.inl e).trans' (oP.mono fun k e=>.inr e)).trans' (oQ.mono fun k e=>.inr e)
 have hst:QE (w.alloc o) ((w15.setCell ⟨p,10,none⟩ v').setCell ⟨p,11,none⟩ (.slice none 0 0)) lab (relab lab (w.alloc o) w15 .log):=⟨K1 lab (w.alloc o) w15 .log,ho2.mono fun k e=>by rcases e with e | e;(rw [e];decide);(rw [e,h.m.lm];decide)⟩
 have hc:=h.cn
 exact ⟨_,_,{ m:=hM2,o:=⟨Q7 _ _ _ _,fun b e=>by cases e⟩,k:=h.k.more (Nat.le_succ _),cn:=⟨Nat.le_succ_of_le hc.nw,Nat.le_succ_of_le hc.nd,Nat.le_succ_of_le hc.ns,Nat.le_succ_of_le hc.nv,hc.nN,Nat.succ_le_succ hc.nl⟩,tb:=h1.tb.out ho2 (fun k e=>h1.lb k (by rcases e with e | e;(rw [e];decide);(rw [e,h.m.lm];decide))) },(QE.below (Qc w o)).trans hst,(Qg.of_below (Qc w o)).trans' ho2⟩
structure V7 (w w':World) (B p:Nat) (c:Ql) (g:Int) (n:Nat) (lab:Nat->QL) (x:Qk) (a:Q2) (v:Value):Prop where
 ex:∃ lab' E' ov' os',Q8 w' B lab' v (Zs c g x a)/\ZW w' B p c g (n+2) lab' (Q5 c g x a) E' ov' os'/\QE w w' lab lab'
set_option maxRecDepth 100000 in
set_option maxHeartbeats 4000000 in
theorem Qi1 {w:World} {B p n:Nat} {c:Ql} {g:Int} {lab:Nat->QL} {x:Qk} {E:Q9} {ov:Value} {os:List Qv} (h:ZW w B p c g n lab x E ov os) (a:Q2) (ht:QY w a.t a.A a.B) (oA:J3 B a.t.rds.length (fun k=>lab k = .one (Qd a.t)) a.A) (oB:J3 B a.t.wrs.length (fun k=>lab k = .one (Qd a.t)) a.B) (hn:n<=1900) :
  Calls Tryz.prog 12 #[.pointer (some ⟨p,0,none⟩),.agg a.vs] w fun e w'=>∃ v,e = .returned v/\V7 w w' B p c g n lab x a v:=by
 obtain ⟨W,eW,HB,hszW,hr0⟩:=Uy w a.vs 41
 have HG:=Lib.hid (h.later HB)
 have hHt:=Lib.hid (ht.later HB)
 have hlt0:Hid (∀ k,lab k ≠ .no->k<w.heap.size):=h.lt
 have hstep:Hid (∀ wz,Below W.heap.size W wz->QE w wz lab lab):=fun wz hb=>QE.below (Qa HB hb)
 obtain ⟨b0,b1,b2,b3,b4,b5,b6,b7,b8,b9⟩:=V5 hr0
 clear h ht
 obtain ⟨fB,hfB⟩:∃ b,ZX a=b:=⟨_,rfl⟩
 have hF:Hid (Calls Tryz.prog 40 #[.agg #[.int .i64 a.k,.int .i64 a.t.ses,.int .i64 a.t.seq,.slice a.A a.t.rds.length a.ca,.slice a.B a.t.wrs.length a.cb,.int .i64 a.is,.int .i64 a.iq,.int .i64 a.g,.int .u64 (a.st:Int),.bool a.y]] W fun e w'=>e = .returned (.bool fB)/\Below W.heap.size W w'):=by
  have:=Qgs a W hHt.out HG.out.tb.t
  rw [hfB] at this
  exact this
 cases fB
 case false =>
  have HE:Hid (Q5 c g x a=x/\Zs c g x a=[]):=⟨by rw [Q5,hfB];rfl,by rw [Zs,hfB];rfl⟩
  clear hfB
  go_enter Tryz.func12,Tryz.ntmps12
  go_wp2_with (go_at_call 40;(with_reducible refine hF.out.mono ?_);rintro e w1 ⟨rfl,hb1⟩)
  go_ret
  refine ⟨_,rfl,⟨lab,E,ov,os,?_,?_,hstep.out _ hb1⟩⟩
  ·rw [HE.out.2];exact ⟨Q7 _ _ _ _,fun b e=>by cases e⟩
  ·rw [HE.out.1];exact (HG.out.later hb1).more (by omega)
 have hOK:=Lib.hid (Jk hfB)
 go_enter Tryz.func12,Tryz.ntmps12
 go_wp2_with (go_at_call 40;(with_reducible refine hF.out.mono ?_);rintro e w1 ⟨rfl,hb1⟩)
 have hG1:=Lib.hid (HG.out.later hb1)
 obtain ⟨_,_,_,_,_,_,_,_,_,_,d10,d11⟩:=hG1.out.m.cs
 replace b0:=keep hb1 b0
 replace b1:=keep hb1 b1
 replace b2:=keep hb1 b2
 replace b3:=keep hb1 b3
 replace b4:=keep hb1 b4
 replace b5:=keep hb1 b5
 replace b6:=keep hb1 b6
 replace b7:=keep hb1 b7
 replace b8:=keep hb1 b8
 replace b9:=keep hb1 b9
 have hlog:=hG1.out.m.log
 have hown:=Qi hlog (Qc w1 (Jw a))
 have hnews:=QhE w1 a
 have hBA:B<=(w1.alloc (Jw a)).heap.size:=Nat.le_trans hG1.out.m.hB (by simp)
 obtain ⟨i0,hi0,hz0,hz1,hz2⟩:=info_parts Qev
 have hnl:=hG1.out.cn.nl
 have hfz:Hid (∀ w15,(w1.alloc (Jw a)).grownBy w15 E.lv.ownBlock->(w15.cell? ⟨p,10,none⟩=some E.lv/\w15.frozen? ⟨p,10,none⟩=false)/\(∀ u,(w15.setCell ⟨p,10,none⟩ u).cell? ⟨p,11,none⟩=some ov/\(w15.setCell ⟨p,10,none⟩ u).frozen? ⟨p,11,none⟩=false)/\(∀ j v,w1.cell? ⟨w.heap.size,j,none⟩=some v->w15.cell? ⟨w.heap.size,j,none⟩=some v/\∀ u,(w15.setCell ⟨p,10,none⟩ u).cell? ⟨w.heap.size,j,none⟩=some v)):=fun w15 hg=>by
  have ho:Qg (fun q=>E.lv.ownBlock=some q) (w1.alloc (Jw a)) w15:=Qg.of_grown hg (fun q e=>e)
  have hb:=ho.obj (hG1.out.m.later (Qc w1 (Jw a))).blk (fun e=>by
   have:=hG1.out.m.ll _ e
   rw [hG1.out.m.lm] at this
   cases this)
  have hbx:¬ (E.lv.ownBlock=some w.heap.size):=fun e=>by
   have:=hlt0.out _ (show lab w.heap.size ≠ .no by rw [hG1.out.m.ll _ e];decide)
   omega
  have hxp:w.heap.size ≠ p:=fun e=>by
   have:=hlt0.out p (by rw [hG1.out.m.lm];decide)
   omega
  refine ⟨⟨by rw [cell_of_row w15 _ _ _ _ _ hb];rfl,frozen_of_row w15 p 10 _ _ hb⟩,fun u=>⟨by rw [cell_of_row _ _ _ _ _ _ (ZJ u hb)];rfl,frozen_of_row _ p 11 _ _ (ZJ u hb)⟩,fun j v hc=>?_⟩
  have h1:=ho.cell (keep (Qc w1 (Jw a)) hc) hbx
  exact ⟨h1,fun u=>(QQ w15 p 10 u).cell h1 hxp⟩
 have k10b:∀ o,(w1.alloc o).cell? ⟨p,10,none⟩=some E.lv:=fun o=>keep (Qc w1 o) d10
 unfold Jw at hown hnews hBA hfz
 go_cut [4] (fun s4 wx=>s4 = .slice none 0 0/\∃ w15 v15,wx=w15.setCell ⟨p,10,none⟩ v15/\(w1.alloc (.cells a.vs 41)).grownBy w15 E.lv.ownBlock/\w15.ownsRow B 41 10 v15 (E.nl+1) (E.cl ++ a.vs.toList)/\(v15.ownBlock=E.lv.ownBlock \/ v15.ownBlock=some (w1.alloc (.cells a.vs 41)).heap.size))
 case first =>
  go_region_law (first
    | (refine Yr rfl _ _ 26 rfl B 41 i0 _ 10 112 Tryz.underlying26 hi0 hz0 hz1 hz2 rfl (by decide) E.lv E.nl E.cl rfl (Qi hown (Qb (Below.refl _ _))) ⟨w1.heap.size,0,none⟩ 1 1 a.vs.toList rfl rfl hnews Qb7 (QA (by omega)) (by omega) hBA ?_;intro v15 w15 HO15 hg15 hv15;obtain ⟨A15,k15,rfl⟩:=ZT HO15;have hg16:(w1.alloc (.cells a.vs 41)).grownBy w15 E.lv.ownBlock:=⟨hg15.os,hg15.tape,hg15.output,hg15.size,hg15.block⟩;obtain ⟨⟨hc15,hf15⟩,_,hS15⟩:=hfz.out w15 hg16))
  all_goals
   go_wp2
   go_meet
   exact ⟨rfl,w15,_,rfl,hg16,HO15,hv15⟩
 case rest =>
  obtain ⟨rfl,w15,v15,rfl,hg16,HO15,hv15⟩:=hcut
  obtain ⟨_,hz11,hS15⟩:=hfz.out w15 hg16
  obtain ⟨hc11,hf11⟩:=hz11 v15
  obtain ⟨lab4,E4,hG4,hS4,hO4⟩:=hG1.out.logged (o:=.cells a.vs 41) hg16 HO15 hv15
  obtain ⟨w4,hw4⟩:∃ w4,(w15.setCell ⟨p,10,none⟩ v15).setCell ⟨p,11,none⟩ (.slice none 0 0)=w4:=⟨_,rfl⟩
  have hox:¬ (lab w.heap.size ≠ .no):=fun e=>by
   have:=hlt0.out _ e
   omega
  have f0:w4.cell? ⟨w.heap.size,0,none⟩=some (.int .i64 a.k):=by rw [<- hw4];exact hS4.out.cell b0 hox
  have f1:w4.cell? ⟨w.heap.size,1,none⟩=some (.int .i64 a.t.ses):=by rw [<- hw4];exact hS4.out.cell b1 hox
  have f2:w4.cell? ⟨w.heap.size,2,none⟩=some (.int .i64 a.t.seq):=by rw [<- hw4];exact hS4.out.cell b2 hox
  have f3:w4.cell? ⟨w.heap.size,3,none⟩=some (.slice a.A a.t.rds.length a.ca):=by rw [<- hw4];exact hS4.out.cell b3 hox
  have f4:w4.cell? ⟨w.heap.size,4,none⟩=some (.slice a.B a.t.wrs.length a.cb):=by rw [<- hw4];exact hS4.out.cell b4 hox
  have f5:w4.cell? ⟨w.heap.size,5,none⟩=some (.int .i64 a.is):=by rw [<- hw4];exact hS4.out.cell b5 hox
  have f6:w4.cell? ⟨w.heap.size,6,none⟩=some (.int .i64 a.iq):=by rw [<- hw4];exact hS4.out.cell b6 hox
  have f7:w4.cell? ⟨w.heap.size,7,none⟩=some (.int .i64 a.g):=by rw [<- hw4];exact hS4.out.cell b7 hox
  have f8:w4.cell? ⟨w.heap.size,8,none⟩=some (.int .u64 (a.st:Int)):=by rw [<- hw4];exact hS4.out.cell b8 hox
  have f9:w4.cell? ⟨w.heap.size,9,none⟩=some (.bool a.y):=by rw [<- hw4];exact hS4.out.cell b9 hox
  have hTx4:Hid (QY w4 a.t a.A a.B):=by
   rw [<- hw4]
   have q1:∀ k,lab k = .log \/ k=p->B<=k:=fun k e=>hG1.out.lb k (by rcases e with e | e;(rw [e];decide);(rw [e,hG1.out.m.lm];decide))
   have q2:∀ k,lab k = .one (Qd a.t)->¬ (lab k = .log \/ k=p):=fun k e ok=>by
    rcases ok with ok | ok
    ·rw [e] at ok;cases ok
    ·rw [ok,hG1.out.m.lm] at e;cases e
   exact VH (hHt.out.later hb1) hO4 (oA.not q1 q2) (oB.not q1 q2)
  have hon:∀ k,lab k = .one (Qd a.t)->lab4 k = .one (Qd a.t):=fun k e=>(hS4.ext k (hG1.out.lt k (by rw [e];intro z;cases z))).trans e
  have oA4:=oA.mono hon
  have oB4:=oB.mono hon
  have hS14:Hid (QE w w4 lab lab4):=by rw [<- hw4];exact (hstep.out _ hb1).trans hS4
  rw [hw4] at hG4
  have hG4':=Lib.hid hG4
  have HA:Hid (Q5 c g x a=(ZU c g ((Zr c g x a).q.l.length+1) (Zr c g x a)).1/\Zs c g x a=Yt c g x a ++ (ZU c g ((Zr c g x a).q.l.length+1) (Zr c g x a)).2):=⟨by rw [Q5,hfB];rfl,by rw [Zs,hfB];rfl⟩
  have hAdv:Hid (∀ w5,Qao w4 w5 B p c g (n+2) lab4 (Zr c g x a) (Yt c g x a)->Calls Tryz.prog 43 #[.pointer (some ⟨p,0,none⟩)] w5 fun e w'=>e = .returned (.tuple #[])/\∃ lab' E' ov',ZW w' B p c g (n+2) lab' (Q5 c g x a) E' ov' (Zs c g x a)/\QE w4 w' lab4 lab'):=fun w5 h5=>by
   obtain ⟨lab5,E5,ov5,hG5,hS5⟩:=h5
   have hlp:(Yt c g x a).length<=8:=by
    unfold Yt
    split
    ·exact Qes hG1.out.k
    ·simp
   refine (QlG hG5 (by omega) (by omega)).mono ?_
   rintro e w6 ⟨rfl,lab6,E6,ov6,h6,hs6,_⟩
   refine ⟨rfl,lab6,E6,ov6,?_,hS5.trans hs6⟩
   rw [HA.out.1,HA.out.2]
   exact h6
  clear hG4 hS4 hg16 HO15 hv15 hS15 hfz hown hnews hBA hlog hfB hz11
  have hkk:=hOK.out.k
  have hlast:Hid (∀ w5:World,(∃ lab' E' ov',ZW w5 B p c g (n+2) lab' (Q5 c g x a) E' ov' (Zs c g x a)/\QE w4 w5 lab4 lab')->∃ v,w5.cell? ⟨p,11,none⟩=some v/\V7 w w5 B p c g n lab x a v):=fun w5 h=>by
   obtain ⟨lab',E',ov',h1,h2⟩:=h
   obtain ⟨_,_,_,_,_,_,_,_,_,_,_,c11⟩:=h1.m.cs
   exact ⟨ov',c11,⟨lab',E',ov',_,h1.o,h1,hS14.out.trans h2⟩⟩
  rcases hkk with hk | hk | hk | hk
  ·have hEnd:Qao w4 w4 B p c g (n+2) lab4 (Zr c g x a) (Yt c g x a):=by
    rw [Zr,if_neg (by omega),if_neg (by omega),Yt,if_neg (by omega)]
    exact ⟨lab4,E4,_,hG4'.out.more (Nat.le_succ _),QE.refl _ _⟩
   have hAd:=Lib.hid (hAdv.out w4 hEnd)
   clear hEnd
   have r1:(a.k == 1)=false:=by simp [hk]
   have r2:(a.k == 2)=false:=by simp [hk]
   have r3:(a.k == 3)=false:=by simp [hk]
   clear hk
   go_wp2_with (go_at_call 43;(with_reducible refine hAd.out.mono ?_);rintro e w6 ⟨rfl,h6⟩;obtain ⟨v6,c6,hP6⟩:=hlast.out _ h6)
   go_ret
   exact ⟨_,rfl,hP6⟩
  ·have hBg:Hid (Calls Tryz.prog 41 #[.pointer (some ⟨p,0,none⟩),.agg #[.int .i64 a.t.ses,.int .i64 a.t.seq,.slice a.A a.t.rds.length a.ca,.slice a.B a.t.wrs.length a.cb]] w4 fun e w'=>e = .returned (.tuple #[])/\Qao w4 w' B p c g (n+2) lab4 (Zr c g x a) (Yt c g x a)):=by
    have:=Qn3 hG4'.out a.t a.A a.B a.ca a.cb hTx4.out oA4 oB4 (hOK.out.t hk) (by omega) (by simp)
    rw [Zr,if_pos hk,Yt,if_pos hk]
    exact this
   have r1:(a.k == 1)=true:=by simp [hk]
   clear hk
   go_wp2_with (first
    | (go_at_call 41;(with_reducible refine hBg.out.mono ?_);rintro e w5 ⟨rfl,h5⟩;have hAd:=Lib.hid (hAdv.out w5 h5))
    | (go_at_call 43;(with_reducible refine hAd.out.mono ?_);rintro e w6 ⟨rfl,h6⟩;obtain ⟨v6,c6,hP6⟩:=hlast.out _ h6))
   go_ret
   exact ⟨_,rfl,hP6⟩
  ·have hHd:Hid (Calls Tryz.prog 42 #[.pointer (some ⟨p,0,none⟩),.agg #[.int .i64 a.k,.int .i64 a.t.ses,.int .i64 a.t.seq,.slice a.A a.t.rds.length a.ca,.slice a.B a.t.wrs.length a.cb,.int .i64 a.is,.int .i64 a.iq,.int .i64 a.g,.int .u64 (a.st:Int),.bool a.y]] w4 fun e w'=>e = .returned (.tuple #[])/\Qao w4 w' B p c g (n+2) lab4 (Zr c g x a) (Yt c g x a)):=by
    have hk2:a.k=2 \/ a.k=3:=by omega
    have:=QiV hG4'.out a hk2 (hOK.out.id hk2).1 (hOK.out.id hk2).2 (hOK.out.st hk2) (by omega)
    rw [Zr,if_neg (by omega),if_pos hk2,Yt,if_neg (by omega)]
    exact this
   have r1:(a.k == 1)=false:=by simp [hk]
   have r2:(a.k == 2)=true:=by simp [hk]
   clear hk
   go_wp2_with (first
    | (go_at_call 42;(with_reducible refine hHd.out.mono ?_);rintro e w5 ⟨rfl,h5⟩;have hAd:=Lib.hid (hAdv.out w5 h5))
    | (go_at_call 43;(with_reducible refine hAd.out.mono ?_);rintro e w6 ⟨rfl,h6⟩;obtain ⟨v6,c6,hP6⟩:=hlast.out _ h6))
   go_ret
   exact ⟨_,rfl,hP6⟩
  ·have hHd:Hid (Calls Tryz.prog 42 #[.pointer (some ⟨p,0,none⟩),.agg #[.int .i64 a.k,.int .i64 a.t.ses,.int .i64 a.t.seq,.slice a.A a.t.rds.length a.ca,.slice a.B a.t.wrs.length a.cb,.int .i64 a.is,.int .i64 a.iq,.int .i64 a.g,.int .u64 (a.st:Int),.bool a.y]] w4 fun e w'=>e = .returned (.tuple #[])/\Qao w4 w' B p c g (n+2) lab4 (Zr c g x a) (Yt c g x a)):=by
    have hk2:a.k=2 \/ a.k=3:=by omega
    have:=QiV hG4'.out a hk2 (hOK.out.id hk2).1 (hOK.out.id hk2).2 (hOK.out.st hk2) (by omega)
    rw [Zr,if_neg (by omega),if_pos hk2,Yt,if_neg (by omega)]
    exact this
   have r1:(a.k == 1)=false:=by simp [hk]
   have r2:(a.k == 2)=false:=by simp [hk]
   have r3:(a.k == 3)=true:=by simp [hk]
   clear hk
   go_wp2_with (first
    | (go_at_call 42;(with_reducible refine hHd.out.mono ?_);rintro e w5 ⟨rfl,h5⟩;have hAd:=Lib.hid (hAdv.out w5 h5))
    | (go_at_call 43;(with_reducible refine hAd.out.mono ?_);rintro e w6 ⟨rfl,h6⟩;obtain ⟨v6,c6,hP6⟩:=hlast.out _ h6))
   go_ret
   exact ⟨_,rfl,hP6⟩
def Xd (lo hi:Nat->Nat) (k:Nat):QL :=
 if lo 3<=k/\k<hi 3 then .q else if lo 4<=k/\k<hi 4 then .s else if lo 5<=k/\k<hi 5 then .mw else if lo 6<=k/\k<hi 6 then .md else if lo 7<=k/\k<hi 7 then .ms else if lo 8<=k/\k<hi 8 then .mv else if lo 9<=k/\k<hi 9 then .at_ else .no
structure E0 (E:Q9):Prop where
 nw:E.nw=0
 nd:E.nd=0
 ns:E.ns=0
 nv:E.nv=0
 nN:E.N=0
 nl:E.nl=0
def Qm8 (B:Nat) (c:Ql) (A A':Option Addr) (ca cb:Nat) (g:Int) (i:Nat) (v:Value) (w:World) (lo hi:Nat):Prop :=
 match i with
 | 0=>v = .agg #[.slice A c.reps.length ca,.slice A' c.bnds.length cb]
 | 1=>v = .int .i64 g
 | 2=>v = .int .i64 g
 | 3=>∃ qp,v = .pointer (some ⟨qp,0,none⟩)/\JZ w lo qp (q0 g) (fun k=>lo<=k/\k<hi)
 | 4=>∃ sp,v = .pointer (some ⟨sp,0,none⟩)/\QW w lo sp 0 (fun k=>lo<=k/\k<hi) Kt
 | 5=>∃ b,v = .map (some b)/\lo<=b/\b<hi/\Za Tryz.prog 34 Y6 JE w b 0 ([]:List (Qp × Value))
 | 6=>∃ b,v = .map (some b)/\lo<=b/\b<hi/\Za Tryz.prog 34 Y6 JE w b 0 ([]:List (Qp × Value))
 | 7=>∃ b,v = .map (some b)/\lo<=b/\b<hi/\Za Tryz.prog 179 Y7 YY w b 0 ([]:List (ZO × Value))
 | 8=>∃ b,v = .map (some b)/\lo<=b/\b<hi/\Za Tryz.prog 179 Y7 YY w b 0 ([]:List (ZO × Value))
 | 9=>QC w lo 39 v (Jv [0])/\∀ b,v.ownBlock=some b->lo<=b/\b<hi
 | 10=>∃ lab E,v = .agg (XN c g E (.slice none 0 0))/\MachR w B c lab (YP g) E/\(∀ k,lab k ≠ .no->k<lo)/\E0 E/\E.A=A/\E.A'=A'
 | _=>∃ p lab E,v = .pointer (some ⟨p,0,none⟩)/\Qo w B p c g lab (YP g) E (.slice none 0 0)/\E0 E/\E.A=A/\E.A'=A'
theorem Qn8 (w w':World):ext noB w w'=fun k=>w.heap.size<=k/\k<w'.heap.size:=by
 funext k
 exact propext ⟨fun h=>h.elim (fun e=>e.elim) id,.inr⟩
theorem Qj4 {B:Nat} {c:Ql} {A A':Option Addr} {ca cb:Nat} {g:Int}:∀ i v w w' lo hi,Qm8 B c A A' ca cb g i v w lo hi->hi<=w.heap.size->Below w.heap.size w w'->Qm8 B c A A' ca cb g i v w' lo hi:=by
 intro i v w w' lo hi h _ hb
 match i with
 | 0 | 1 | 2=>exact h
 | 3=>obtain ⟨qp,e,h⟩:=h;exact ⟨qp,e,h.later hb⟩
 | 4=>obtain ⟨qp,e,h⟩:=h;exact ⟨qp,e,h.later hb⟩
 | 5 | 6 | 7 | 8=>obtain ⟨b,e,h1,h2,h⟩:=h;exact ⟨b,e,h1,h2,h.later hb⟩
 | 9=>exact ⟨h.1.later hb,h.2⟩
 | 10=>obtain ⟨lab,E,e,h,h2⟩:=h;exact ⟨lab,E,e,h.later hb,h2⟩
 | i+11=>obtain ⟨p,lab,E,e,h⟩:=h;exact ⟨p,lab,E,e,h.1.later hb,h.2⟩
theorem Qn9 (lo hi:Nat->Nat):(fun k=>Xd lo hi k=QL.q)=(fun k=>lo 3<=k/\k<hi 3):=by
 funext k
 apply propext
 constructor
 ·intro e
  unfold Xd at e
  repeat' split at e
  all_goals first | assumption | cases e
 ·intro e
  rw [Xd,if_pos e]
theorem Qoa (lo hi:Nat->Nat) (D:hi 3<=lo 4 \/ hi 4<=lo 3):(fun k=>Xd lo hi k=QL.s)=(fun k=>lo 4<=k/\k<hi 4):=by
 funext k
 apply propext
 constructor
 ·intro e
  unfold Xd at e
  repeat' split at e
  all_goals first | assumption | cases e
 ·intro e
  rw [Xd,if_neg (by omega),if_pos e]
theorem QhF {lo hi:Nat->Nat} {k:Nat} (hk:Xd lo hi k ≠ .no):∃ i,3<=i/\i<=9/\lo i<=k/\k<hi i:=by
 unfold Xd at hk
 repeat' split at hk
 ·exact ⟨3,by omega,by omega,by assumption⟩
 ·exact ⟨4,by omega,by omega,by assumption⟩
 ·exact ⟨5,by omega,by omega,by assumption⟩
 ·exact ⟨6,by omega,by omega,by assumption⟩
 ·exact ⟨7,by omega,by omega,by assumption⟩
 ·exact ⟨8,by omega,by omega,by assumption⟩
 ·exact ⟨9,by omega,by omega,by assumption⟩
 ·exact absurd rfl hk
theorem Qo9 {a b c d k:Nat} (D:b<=c \/ d<=a) (h:c<=k/\k<d):¬ (a<=k/\k<b):=by omega
theorem QlH {w:World} {B:Nat} {c:Ql} {A A':Option Addr} {ca cb qp sp m5 m6 m7 m8:Nat} {g:Int} {av:Value} {lo hi:Nat->Nat} (hc:Z9 w c A A') (oA:Ko B c.reps.length A) (oA':Ko B c.bnds.length A')
  (hq:JZ w (lo 3) qp (q0 g) (fun k=>lo 3<=k/\k<hi 3)) (hs:QW w (lo 4) sp 0 (fun k=>lo 4<=k/\k<hi 4) Kt)
  (hm5:Za Tryz.prog 34 Y6 JE w m5 0 ([]:List (Qp × Value))) (hm6:Za Tryz.prog 34 Y6 JE w m6 0 ([]:List (Qp × Value)))
  (hm7:Za Tryz.prog 179 Y7 YY w m7 0 ([]:List (ZO × Value))) (hm8:Za Tryz.prog 179 Y7 YY w m8 0 ([]:List (ZO × Value)))
  (ha:QC w (lo 9) 39 av (Jv [0])) (hav:∀ b,av.ownBlock=some b->lo 9<=b/\b<hi 9)
  (k5:lo 5<=m5/\m5<hi 5) (k6:lo 6<=m6/\m6<hi 6) (k7:lo 7<=m7/\m7<hi 7) (k8:lo 8<=m8/\m8<hi 8)
  (D:∀ i j,3<=i->i<=9->3<=j->j<=9->i ≠ j->hi i<=lo j \/ hi j<=lo i) (hB:∀ i,3<=i->i<=9->B<=lo i/\hi i<=w.heap.size) :
  MachR w B c (Xd lo hi) (YP g) ⟨A,A',ca,cb,lo 3,qp,lo 4,sp,0,m5,m6,m7,m8,0,0,0,0,av,.slice none 0 0,0,[],[],[],[],[],fun _=>0⟩:=by
 have Dn:∀ {i j k},3<=i->i<=9->3<=j->j<=9->i ≠ j->lo j<=k/\k<hi j->¬ (lo i<=k/\k<hi i):=fun h1 h2 h3 h4 h5 h6=>Qo9 (D _ _ h1 h2 h3 h4 h5) h6
 have hB9:=hB 9 (by omega) (by omega)
 refine { cfg:=hc,oA:=oA,oA':=oA',q:=?_,s:=?_,hw:=hm5,hd:=hm6,hs:=hm7,hv:=hm8,lmw:=?_,lmd:=?_,lms:=?_,lmv:=?_,kw:=fun i=>rfl,kd:=fun i=>rfl,ks:=fun i=>rfl,kv:=fun i=>rfl,wt:=fun i v e=>(by cases e),a:=ha.low hB9.1,la:=?_,log:=Q7 _ _ _ _,ll:=fun b e=>(by cases e),lt:=?_ }
 ·rw [Qn9];exact hq
 ·rw [Qoa lo hi (D 3 4 (by decide) (by decide) (by decide) (by decide) (by decide))];exact hs
 ·show Xd lo hi m5=_;rw [Xd,if_neg (Dn (i:=3) (j:=5) (by decide) (by decide) (by decide) (by decide) (by decide) k5),if_neg (Dn (i:=4) (j:=5) (by decide) (by decide) (by decide) (by decide) (by decide) k5),if_pos k5]
 ·show Xd lo hi m6=_;rw [Xd,if_neg (Dn (i:=3) (j:=6) (by decide) (by decide) (by decide) (by decide) (by decide) k6),if_neg (Dn (i:=4) (j:=6) (by decide) (by decide) (by decide) (by decide) (by decide) k6),if_neg (Dn (i:=5) (j:=6) (by decide) (by decide) (by decide) (by decide) (by decide) k6),if_pos k6]
 ·show Xd lo hi m7=_;rw [Xd,if_neg (Dn (i:=3) (j:=7) (by decide) (by decide) (by decide) (by decide) (by decide) k7),if_neg (Dn (i:=4) (j:=7) (by decide) (by decide) (by decide) (by decide) (by decide) k7),if_neg (Dn (i:=5) (j:=7) (by decide) (by decide) (by decide) (by decide) (by decide) k7),if_neg (Dn (i:=6) (j:=7) (by decide) (by decide) (by decide) (by decide) (by decide) k7),if_pos k7]
 ·show Xd lo hi m8=_;rw [Xd,if_neg (Dn (i:=3) (j:=8) (by decide) (by decide) (by decide) (by decide) (by decide) k8),if_neg (Dn (i:=4) (j:=8) (by decide) (by decide) (by decide) (by decide) (by decide) k8),if_neg (Dn (i:=5) (j:=8) (by decide) (by decide) (by decide) (by decide) (by decide) k8),if_neg (Dn (i:=6) (j:=8) (by decide) (by decide) (by decide) (by decide) (by decide) k8),if_neg (Dn (i:=7) (j:=8) (by decide) (by decide) (by decide) (by decide) (by decide) k8),if_pos k8]
 ·intro b e
  have k9:=hav b e
  rw [Xd,if_neg (Dn (i:=3) (j:=9) (by decide) (by decide) (by decide) (by decide) (by decide) k9),if_neg (Dn (i:=4) (j:=9) (by decide) (by decide) (by decide) (by decide) (by decide) k9),if_neg (Dn (i:=5) (j:=9) (by decide) (by decide) (by decide) (by decide) (by decide) k9),if_neg (Dn (i:=6) (j:=9) (by decide) (by decide) (by decide) (by decide) (by decide) k9),if_neg (Dn (i:=7) (j:=9) (by decide) (by decide) (by decide) (by decide) (by decide) k9),if_neg (Dn (i:=8) (j:=9) (by decide) (by decide) (by decide) (by decide) (by decide) k9),if_pos k9]
 ·intro k hk
  obtain ⟨i,h1,h2,h3,h4⟩:=QhF hk
  have:=hB i h1 h2
  omega
def QoG (w:World) (c:Ql) (g:Int) (A A':Option Addr) (e:Ending) (w':World):Prop:=∃ p lab E,e = .returned (.pointer (some ⟨p,0,none⟩))/\Qo w' w.heap.size p c g lab (YP g) E (.slice none 0 0)/\Below w.heap.size w w'/\E0 E/\E.A=A/\E.A'=A'
def QhG (w:World) (c:Ql) (g:Int) (e:Ending) (w':World):Prop:=∃ p lab E,e = .returned (.pointer (some ⟨p,0,none⟩))/\Qo w' w.heap.size p c g lab (YP g) E (.slice none 0 0)/\Below w.heap.size w w'/\E0 E
set_option maxRecDepth 100000 in
set_option maxHeartbeats 4000000 in
theorem QhH {w:World} {c:Ql} {A A':Option Addr} {ca cb:Nat} {g:Int} (h:Z9 w c A A') (oA:Ko w.heap.size c.reps.length A) (oA':Ko w.heap.size c.bnds.length A') (hf:Qn c=true) (h0:0<=g) (h1:g<(c.reps.length:Int)) :
  Calls Tryz.prog 11 #[.agg #[.slice A c.reps.length ca,.slice A' c.bnds.length cb],.int .i64 g] w (QoG w c g A A'):=by
 obtain ⟨W,eW,HB,c0,c1⟩:=Y5 w (.slice A c.reps.length ca) (.slice A' c.bnds.length cb) 25
 have hW:=Lib.hid (h.later HB)
 have HF:=Lib.hid hf
 have HR4:Hid (c.reps.length<=4):=by
  show _<=_
  simp only [Qn,XI,Bool.and_eq_true,decide_eq_true_eq] at hf
  exact hf.1.1.1.2
 have q1:¬ g<0:=by omega
 have q2:¬ (c.reps.length:Int)<=g:=by omega
 have HBw:Hid (w.heap.size<=W.heap.size):=HB.size
 go_enter Tryz.func11,Tryz.ntmps11
 go_wp2_with (go_at_call 37;refine (Qdp HF.out (Yk c A A' ca cb _ hW.out)).mono ?_;rintro e w1 ⟨rfl,hb1⟩;have d0:=keep hb1 c0;have d1:=keep hb1 c1)
 refine Qdn (Qm8 w.heap.size c A A' ca cb g) (by kernel_rfl) (by kernel_rfl) (by kernel_rfl) Qj4 ?hop ?hQ
 case hop =>
  intro L lo hi a w2 M i o ho hdep
  have a1:a.eval (.tmp 1) = .int .i64 g:=M.old' (s:=1) (by kernel_rfl)
  have a2:a.eval (.tmp 2) = .pointer (some ⟨w.heap.size,0,none⟩):=M.old' (s:=2) (by kernel_rfl)
  match i,ho with
  | 0,ho =>
   cases ho
   have e0:=keep M.bel d0
   have e1:=keep M.bel d1
   refine YI (v:=.agg #[.slice A c.reps.length ca,.slice A' c.bnds.length cb]) (w':=w2) ?_ ⟨Below.refl _ _,rfl⟩
   generalize a.eval=ρ at a2
   simp [execOp,go_sem,a2,e0,e1]
  | 1,ho =>
   cases ho
   exact Qd8 (x:=.tmp 1) rfl ⟨Below.refl _ _,a1⟩
  | 2,ho =>
   cases ho
   exact Qd8 (x:=.tmp 1) rfl ⟨Below.refl _ _,a1⟩
  | 3,ho =>
   cases ho
   have b2:a.eval (.tmp 21) = .int .i64 g:=(M.dep (i:=2) (s:=21) (hdep ⟨2,.data⟩ (by simp) rfl) (by kernel_rfl) (of_decide_eq_true (by kernel_rfl))).1
   refine Qd7 (f:=38) (args:=#[.int .i64 g]) ?_ ?_
   ·have hf:a.eval (.func 38) = .func (.func 38) #[] #[]:=rfl
    generalize a.eval=ρ at b2 hf
    simp [execOp,go_sem,b2,hf]
   ·refine (QjL h0 (by have:=HR4.out;omega)).mono ?_
    rintro e w3 ⟨qp,rfl,hq,hb⟩
    exact ⟨_,rfl,hb,qp,rfl,hq⟩
  | 4,ho =>
   cases ho
   refine Qd7 (f:=39) (args:=#[]) ?_ ?_
   ·have hf:a.eval (.func 39) = .func (.func 39) #[] #[]:=rfl
    generalize a.eval=ρ at hf
    simp [execOp,go_sem,hf]
   ·refine (QkP w2).mono ?_
    rintro e w3 ⟨sp,rfl,hs,hb⟩
    rw [Qn8] at hs
    exact ⟨_,rfl,hb,sp,rfl,hs⟩
  | 5,ho =>
   cases ho
   refine YI (v:=.map (some w2.heap.size)) (w':=w2.alloc (.map #[] 0)) (by simp [execOp,go_sem,run_makeMap]) ⟨Qc _ _,_,rfl,Nat.le_refl _,by simp,Za.made w2⟩
  | 6,ho =>
   cases ho
   refine YI (v:=.map (some w2.heap.size)) (w':=w2.alloc (.map #[] 0)) (by simp [execOp,go_sem,run_makeMap]) ⟨Qc _ _,_,rfl,Nat.le_refl _,by simp,Za.made w2⟩
  | 7,ho =>
   cases ho
   refine YI (v:=.map (some w2.heap.size)) (w':=w2.alloc (.map #[] 0)) (by simp [execOp,go_sem,run_makeMap]) ⟨Qc _ _,_,rfl,Nat.le_refl _,by simp,Za.made w2⟩
  | 8,ho =>
   cases ho
   refine YI (v:=.map (some w2.heap.size)) (w':=w2.alloc (.map #[] 0)) (by simp [execOp,go_sem,run_makeMap]) ⟨Qc _ _,_,rfl,Nat.le_refl _,by simp,Za.made w2⟩
  | 9,ho =>
   cases ho
   refine YI (v:=.slice (some ⟨w2.heap.size,0,none⟩) 1 1) (w':=w2.alloc (.cells #[.int .u64 0] 39)) ?_ ⟨Qc _ _,?_,?_⟩
   ·have hc:a.eval (.const (.int .u64 0)) = .int .u64 0:=rfl
    generalize a.eval=ρ at hc
    simp [execOp,go_sem,hc]
   ·exact .inr ⟨_,0,1,_,rfl,Nat.le_refl _,heap_alloc_new w2 _,by simp [Jv],by unfold maxLen;omega,by simp,by simp [Jv]⟩
   ·intro b hb
    cases hb
    exact ⟨Nat.le_refl _,by simp⟩
  | 10,ho =>
   cases ho
   have D:∀ i j,L i=true->L j=true->i<13->j<13->i ≠ j->hi i<=lo j \/ hi j<=lo i:=fun i j h1 h2 h3 h4 h5=>M.apart i j h1 h2 h3 h4 h5
   have l0:=hdep ⟨0,.data⟩ (by simp) rfl
   have l1:=hdep ⟨1,.data⟩ (by simp) rfl
   have l3:=hdep ⟨3,.data⟩ (by simp) rfl
   have l4:=hdep ⟨4,.data⟩ (by simp) rfl
   have l5:=hdep ⟨5,.data⟩ (by simp) rfl
   have l6:=hdep ⟨6,.data⟩ (by simp) rfl
   have l7:=hdep ⟨7,.data⟩ (by simp) rfl
   have l8:=hdep ⟨8,.data⟩ (by simp) rfl
   have l9:=hdep ⟨9,.data⟩ (by simp) rfl
   obtain ⟨v0,_⟩:=M.dep (i:=0) (s:=19) l0 (by kernel_rfl) (of_decide_eq_true (by kernel_rfl))
   obtain ⟨v1,_⟩:=M.dep (i:=1) (s:=20) l1 (by kernel_rfl) (of_decide_eq_true (by kernel_rfl))
   obtain ⟨⟨qp,v3,hq⟩,b3,c3,e3⟩:=M.dep (i:=3) (s:=22) l3 (by kernel_rfl) (of_decide_eq_true (by kernel_rfl))
   obtain ⟨⟨sp,v4,hs⟩,b4,c4,e4⟩:=M.dep (i:=4) (s:=23) l4 (by kernel_rfl) (of_decide_eq_true (by kernel_rfl))
   obtain ⟨⟨m5,v5,g5,f5,hm5⟩,b5,c5,e5⟩:=M.dep (i:=5) (s:=24) l5 (by kernel_rfl) (of_decide_eq_true (by kernel_rfl))
   obtain ⟨⟨m6,v6,g6,f6,hm6⟩,b6,c6,e6⟩:=M.dep (i:=6) (s:=25) l6 (by kernel_rfl) (of_decide_eq_true (by kernel_rfl))
   obtain ⟨⟨m7,v7,g7,f7,hm7⟩,b7,c7,e7⟩:=M.dep (i:=7) (s:=26) l7 (by kernel_rfl) (of_decide_eq_true (by kernel_rfl))
   obtain ⟨⟨m8,v8,g8,f8,hm8⟩,b8,c8,e8⟩:=M.dep (i:=8) (s:=27) l8 (by kernel_rfl) (of_decide_eq_true (by kernel_rfl))
   obtain ⟨⟨ha,hav⟩,b9,c9,e9⟩:=M.dep (i:=9) (s:=28) l9 (by kernel_rfl) (of_decide_eq_true (by kernel_rfl))
   have hL:∀ i,3<=i->i<=9->L i=true:=fun i h1 h2=>by
    have:i=3 \/ i=4 \/ i=5 \/ i=6 \/ i=7 \/ i=8 \/ i=9:=by omega
    rcases this with rfl | rfl | rfl | rfl | rfl | rfl | rfl <;> assumption
   obtain ⟨av,hav'⟩:∃ av,a.eval (.tmp 28)=av:=⟨_,rfl⟩
   rw [hav'] at ha hav
   obtain ⟨Aa,ka,rfl⟩:=K0 ha
   have hR:=QlH (B:=w.heap.size) (A:=A) (A':=A') (ca:=ca) (cb:=cb) (lo:=lo) (hi:=hi) (hW.out.later (Qa hb1 M.bel)) oA oA' hq hs hm5 hm6 hm7 hm8 ha hav ⟨g5,f5⟩ ⟨g6,f6⟩ ⟨g7,f7⟩ ⟨g8,f8⟩
    (fun i j h1 h2 h3 h4 h5=>D i j (hL i h1 h2) (hL j h3 h4) (by omega) (by omega) h5)
    (fun i h1 h2=>by
     have hh:=M.has i (hL i h1 h2) (by show i<13;omega)
     have:=HBw.out
     have:=hb1.size
     exact ⟨by omega,hh.2.2.2⟩)
   have hlt:∀ k,Xd lo hi k ≠ .no->k<w2.heap.size:=fun k hk=>by
    obtain ⟨i,h1,h2,h3,h4⟩:=QhF hk
    have hh:=M.has i (hL i h1 h2) (by show i<13;omega)
    omega
   have v0':a.eval (.tmp 19) = .agg #[.slice A c.reps.length ca,.slice A' c.bnds.length cb]:=v0
   have v1':a.eval (.tmp 20) = .int .i64 g:=v1
   refine YI (w':=w2) ?_ ⟨Below.refl _ _,Xd lo hi,_,rfl,hR,hlt,⟨rfl,rfl,rfl,rfl,rfl,rfl⟩,rfl,rfl⟩
   clear hR hlt hL D v0 v1 ha hav hm5 hm6 hm7 hm8 hq hs
   generalize a.eval=ρ at v0' v1' v3 v4 v5 v6 v7 v8 hav'
   unfold XN
   simp [execOp,go_sem,v0',v1',v3,v4,v5,v6,v7,v8,hav']
  | 11,ho =>
   cases ho
   obtain ⟨⟨lab,E,e10,hR,hlt,hz⟩,hlo1,hlo2,hlo3⟩:=M.dep (i:=10) (s:=29) (hdep ⟨10,.data⟩ (by simp) rfl) (by kernel_rfl) (of_decide_eq_true (by kernel_rfl))
   refine YI (v:=.pointer (some ⟨w2.heap.size,0,none⟩)) (w':=w2.alloc (.cells (XN c g E (.slice none 0 0)) 107)) ?_ ⟨Qc _ _,w2.heap.size,relab lab w2 (w2.alloc (.cells (XN c g E (.slice none 0 0)) 107)) .m,E,rfl,?_⟩
   ·generalize a.eval=ρ at e10
    unfold XN at e10 ⊢
    simp [execOp,go_sem,e10]
   ·have hR2:=(hR.later (Qc w2 (.cells (XN c g E (.slice none 0 0)) 107))).relab (w:=w2) (l:=.m) (fun k hk=>by have:=hlt k hk;omega) (.inl rfl) (fun k hk=>by have:=M.bel.size;have:=HBw.out;have:=hb1.size;omega)
    exact ⟨{ hR2 with blk:=heap_alloc_new w2 _,lm:=by simp [relab] },hz⟩
  | 12,ho =>
   cases ho
   obtain ⟨⟨p,lab,E,e11,hM⟩,_⟩:=M.dep (i:=11) (s:=30) (hdep ⟨11,.data⟩ (by simp) rfl) (by kernel_rfl) (of_decide_eq_true (by kernel_rfl))
   exact YI (v:=.pointer (some ⟨p,0,none⟩)) (w':=w2) (by rw [BigFrame.run_assign (.tmp 30) rfl,e11]) ⟨Below.refl _ _,p,lab,E,rfl,hM⟩
  | i+13,ho=>simp at ho
 case hQ =>
  intro lo hi a w2 M
  obtain ⟨⟨p,lab,E,e4,hM⟩,hx4⟩:=M.dep (i:=12) (s:=4) rfl (by kernel_rfl) (of_decide_eq_true (by kernel_rfl))
  rename_i hK
  refine hK _ _ (wp_ret (bodyPost_ret (results_tmp rfl _ _ _) M.defers ?_))
  exact ⟨p,lab,E,by rw [show a.tmps.getD 4 undef = .pointer (some ⟨p,0,none⟩) from e4],hM.1,Qa HB (Qa hb1 M.bel),hM.2⟩
theorem Qm9 {w:World} {c:Ql} {A A':Option Addr} {ca cb:Nat} {g:Int} (h:Z9 w c A A') (oA:Ko w.heap.size c.reps.length A) (oA':Ko w.heap.size c.bnds.length A') (hf:Qn c=true) (h0:0<=g) (h1:g<(c.reps.length:Int)) :
  Calls Tryz.prog 11 #[.agg #[.slice A c.reps.length ca,.slice A' c.bnds.length cb],.int .i64 g] w (QhG w c g):=by
 refine (QhH h oA oA' hf h0 h1).mono ?_
 rintro e w' ⟨p,lab,E,h1,h2,h3,h4,_⟩
 exact ⟨p,lab,E,h1,h2,h3,h4⟩
theorem Qo.low0 {w:World} {B B' p:Nat} {c:Ql} {g:Int} {lab:Nat->QL} {E:Q9} {ov:Value} (h:Qo w B p c g lab (YP g) E ov) (hB:B'<=B) (oA:Ko B' c.reps.length E.A) (oA':Ko B' c.bnds.length E.A'):Qo w B' p c g lab (YP g) E ov :=
 { h with oA:=oA,oA':=oA',wt:=fun i v e=>(by cases e),a:=h.a.low hB,log:=h.log.mono hB,lt:=fun k hk=>⟨Nat.le_trans hB (h.lt k hk).1,(h.lt k hk).2⟩ }
def txA:Tx:=⟨1,1,[⟨⟨#[97]⟩,0⟩],[]⟩
theorem QoH:Qh txA=true:=by decide
theorem QlI {w:World} {b:Nat} (hA:w.cell? ⟨b,0,none⟩=some (.int .i64 1)):Z9 w YH (some ⟨b,0,none⟩) none:=by
 refine ⟨fun i hi=>?_,fun i hi=>absurd hi (Nat.not_lt_zero _),fun i hi=>absurd hi (Nat.not_lt_zero _),by decide,by decide⟩
 have hi1:i<1:=hi
 obtain rfl:i=0:=by omega
 exact ⟨b,0,rfl,hA⟩
theorem Qna {w:World} {b:Nat} (h0:w.cell? ⟨b,0,none⟩=some (.string ⟨#[97]⟩)) (h1:w.cell? ⟨b,1,none⟩=some (.int .u64 0)):QY w txA (some ⟨b,0,none⟩) none:=by
 refine ⟨fun i hi=>?_,fun i hi=>absurd hi (Nat.not_lt_zero _),fun i hi=>?_,fun i hi=>absurd hi (Nat.not_lt_zero _),fun i hi=>absurd hi (Nat.not_lt_zero _),by decide,by decide⟩
 ·have hi1:i<1:=hi
  obtain rfl:i=0:=by omega
  exact ⟨b,0,rfl,h0,h1⟩
 ·have hi1:i<1:=hi
  obtain rfl:i=0:=by omega
  decide
theorem Vh.of {w w':World} {B:Nat} (h:XT w) (hB:w.heap.size<=B) (h':XT w'):Vh w' B :=
 ⟨h',Nat.lt_of_lt_of_le (Yc (h.1 0 (by decide))) hB,Nat.lt_of_lt_of_le (Yc (h.2 0 (by decide)).1) hB⟩
theorem ZW.made {w2 w3:World} {B p:Nat} {c:Ql} {g:Int} {lab:Nat->QL} {E:Q9} (hM:Qo w2 B p c g lab (YP g) E (.slice none 0 0)) (hz:E0 E) (hb:Below w2.heap.size w2 w3) (hf:Qn c=true) (h0:0<=g) (h1:g<(c.reps.length:Int)) (ht:Vh w3 B):ZW w3 B p c g 0 lab (YP g) E (.slice none 0 0) [] :=
 { m:=hM.later hb,o:=⟨Q7 _ _ _ _,fun b e=>by cases e⟩,k:=Qdu hf h0 h1,cn:=⟨Nat.le_of_eq hz.nw,by have:=hz.nd;show E.nd+0<=0;omega,Nat.le_of_eq hz.ns,Nat.le_of_eq hz.nv,by have:=hz.nN;show E.N<=_;omega,Nat.le_of_eq hz.nl⟩,tb:=ht }
theorem ZW.claim {w:World} {B p n:Nat} {c:Ql} {g:Int} {lab:Nat->QL} {x:Qk} {E:Q9} {ov:Value} {os:List Qv} (h:ZW w B p c g n lab x E ov os) {b:Nat} (hb:lab b = .no) (hB:B<=b) (hs:b<w.heap.size) {i:Qp} (hi:Qe x.wt i=none):ZW w B p c g n (Z1 lab b 0 0 i) x E ov os :=
 { h with m:=h.m.addLab ⟨hb,hB,hs⟩ (fun k h1 h2=>by omega) hi,o:=h.o.addLab hb (fun k h1 h2=>by omega) }
set_option maxRecDepth 100000 in
set_option maxHeartbeats 4000000 in
theorem Qob (w:World) (hT:XT w):Calls Tryz.prog 9 #[] w fun e w'=>e = .returned (.bool true)/\Below w.heap.size w w':=by
 obtain ⟨w1,hw1,hb1,hs1,hr1⟩:=Uy w #[.int .i64 1] 3
 have hc1:w1.cell? ⟨w.heap.size,0,none⟩=some (.int .i64 1):=by rw [cell_of_row w1 _ _ _ _ _ hr1];rfl
 have hN:Hid (Calls Tryz.prog 11 #[.agg #[.slice (some ⟨w.heap.size,0,none⟩) 1 1,.slice none 0 0],.int .i64 0] w1 (QhG w1 YH 0)) :=
  Qm9 (c:=YH) (QlI hc1) (fun a e _=>by cases e;show w.heap.size<_;omega) (fun a e=>by cases e) VK (by decide) (by decide)
 have hT1:=hT.later hb1
 clear hc1 hr1
 have hAll:Hid (∀ w2 p lab E,Qo w2 w1.heap.size p YH 0 lab (YP 0) E (.slice none 0 0)->Below w1.heap.size w1 w2->E0 E->∀ w3,(w2.alloc (.cells #[.string ⟨#[97]⟩,.int .u64 0] 77)).alloc (.cells (YE txA (some ⟨w2.heap.size,0,none⟩) none 1 0).vs 41)=w3->Calls Tryz.prog 12 #[.pointer (some ⟨p,0,none⟩),.agg #[.int .i64 1,.int .i64 1,.int .i64 1,.slice (some ⟨w2.heap.size,0,none⟩) 1 1,.slice none 0 0,.int .i64 0,.int .i64 0,.int .i64 0,.int .u64 0,.bool false]] w3 fun e w'=>(∃ A k,e = .returned (.slice A 1 k))/\Below w.heap.size w w'):=fun w2 p lab E hM hb2 hz w3 hw3=>by
  have hb3:Below w2.heap.size w2 w3:=by rw [<- hw3];exact ZL _ _ _
  have hrow:w3.heap[w2.heap.size]? = some (.cells #[.string ⟨#[97]⟩,.int .u64 0] 77 (0,0)):=by
   rw [<- hw3]
   exact Xw (heap_alloc_new w2 _) (Qc _ _)
  have hs3:w2.heap.size<w3.heap.size:=by rw [<- hw3];simp;omega
  have hG:=ZW.made hM hz hb3 VK (by decide) (by decide) (Vh.of hT hb1.size (hT1.later (Qa hb2 hb3)))
  have hno:lab w2.heap.size = .no:=by
   cases e:lab w2.heap.size
   case no=>rfl
   all_goals exact absurd (hM.lt w2.heap.size (by rw [e];intro z;cases z)).2 (Nat.lt_irrefl _)
  have hG2:=hG.claim hno hb2.size hs3 (i:=Qd txA) rfl
  have hTx:QY w3 txA (some ⟨w2.heap.size,0,none⟩) none:=Qna (by rw [cell_of_row w3 _ _ _ _ _ hrow];rfl) (by rw [cell_of_row w3 _ _ _ _ _ hrow];rfl)
  have:=Qi1 hG2 (YE txA (some ⟨w2.heap.size,0,none⟩) none 1 0) hTx (fun a e _=>by cases e;exact .inr (by show Z1 _ _ _ _ _ _=_;rw [Z1,if_pos (.inl rfl)];rfl)) (fun a e=>by cases e) (by decide)
  refine this.mono ?_
  rintro e w4 ⟨v,rfl,⟨lab',E',ov',os',hR,hG4,hS4⟩⟩
  have hO:=(Qir QoF (A:=some ⟨w2.heap.size,0,none⟩) (B:=none) (ca:=1) (cb:=0) QoH (by decide) rfl).2
  rw [hO] at hR
  obtain ⟨A4,k4,rfl⟩:=ZT hR.1
  refine ⟨⟨A4,k4,rfl⟩,?_⟩
  have h3:Below w.heap.size w w3:=Qa hb1 (Qa hb2 hb3)
  exact h3.trans (hS4.out.below h3.size (fun k hk=>Nat.le_trans hb1.size (hG2.lb k hk)))
 go_enter Tryz.func9,Tryz.ntmps9
 go_wp2_with (first
  | (go_at_call 11;(with_reducible refine hN.out.mono ?_);rintro e w2 ⟨p,lab,E,rfl,hM,hb2,hz⟩;have hAp:=Lib.hid (hAll.out w2 p lab E hM hb2 hz _ rfl))
  | (go_at_call 12;refine hAp.out.mono ?_;rintro e w4 ⟨⟨A4,k4,rfl⟩,hb4⟩))
 go_ret
 exact ⟨rfl,hb4⟩
end Go.Proofs.YtcldpmkhpmlcbaaGreatDoor
