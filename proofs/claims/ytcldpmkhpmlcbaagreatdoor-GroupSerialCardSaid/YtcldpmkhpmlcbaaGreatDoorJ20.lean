/- part -/
import Derived.Test.YtcldpmkhpmlcbaaGreatDoorJ18
import Derived.Test.YtcldpmkhpmlcbaaGreatDoorVote16
import Derived.Test.YtcldpmkhpmlcbaaGreatDoorJ19
import Derived.Test.YtcldpmkhpmlcbaaGreatDoorJ15
import Derived.Test.YtcldpmkhpmlcbaaGreatDoorJ12
import Derived.Test.YtcldpmkhpmlcbaaGreatDoorJ11
set_option linter.unusedVariables false
set_option linter.unusedSimpArgs false
namespace Go.Proofs.YtcldpmkhpmlcbaaGreatDoor
open Go.RowKit Go.Shelf Go.Maps
structure QcG (n nq last:Nat) (E:Q9):Prop where
 nw:E.nw<=n
 nd:E.nd<=nq
 ns:E.ns<=n
 nv:E.nv<=n
 nN:E.N<=6 * last
 nl:E.nl<=n
theorem QcD.c {n:Nat} {x:Qk} {E:Q9} (h:QcD n x E):QcG n (n-x.q.l.length) x.s.last E:=⟨h.nw,by have:=h.nd;omega,h.ns,h.nv,h.nN,h.nl⟩
theorem QcG.n {n nq:Nat} {x:Qk} {E:Q9} (h:QcG n nq x.s.last E) (hq:nq+x.q.l.length<=n):QcD n x E:=⟨h.nw,by have:=h.nd;omega,h.ns,h.nv,h.nN,h.nl⟩
structure Zu (w wr:World) (bx B p:Nat) (c:Ql) (g:Int) (n nq:Nat) (lab:Nat->QL) (i:Qp) (t:Tx) (op qp tp:Nat) (A1 A2:Option Addr) (a1 a2:Nat) (y:Qk) (os:List Qv) (lab':Nat->QL) (E':Q9) (ov':Value):Prop where
 m:Qo wr B p c g lab' y E' ov'
 o:Q8 wr B lab' ov' os
 st:QE w wr lab lab'
 cn:QcG n nq y.s.last E'
 pq:E'.pp i=op
 qq:E'.qp=qp
 lb:lab' op = .one i
 lx:lab' bx = .no
 lxw:bx<wr.heap.size
 x0:wr.cell? ⟨bx,0,none⟩=some (.int .i64 i.ses)
 x1:wr.cell? ⟨bx,1,none⟩=some (.int .i64 i.seq)
 c0:wr.cell? ⟨op,0,none⟩=some (.int .i64 t.ses)
 c1:wr.cell? ⟨op,1,none⟩=some (.int .i64 t.seq)
 c2:wr.cell? ⟨op,2,none⟩=some (.slice A1 t.rds.length a1)
 c3:wr.cell? ⟨op,3,none⟩=some (.slice A2 t.wrs.length a2)
 c5:wr.cell? ⟨op,5,none⟩=some (.pointer (some ⟨tp,0,none⟩))
 tx:QY wr t A1 A2
 oA:J3 B t.rds.length (fun k=>lab' k = .one i) A1
 oA':J3 B t.wrs.length (fun k=>lab' k = .one i) A2
 tb:Vh wr B
def QM (w wr:World) (bx B p:Nat) (c:Ql) (g:Int) (n nq:Nat) (lab:Nat->QL) (i:Qp) (t:Tx) (op qp tp:Nat) (A1 A2:Option Addr) (a1 a2:Nat) (y:Qk) (os:List Qv):Prop:=∃ lab' E' ov',Zu w wr bx B p c g n nq lab i t op qp tp A1 A2 a1 a2 y os lab' E' ov'
section
variable {w wr w':World} {bx B p n nq:Nat} {c:Ql} {g:Int} {lab lab':Nat->QL} {i:Qp} {t:Tx} {op qp tp:Nat} {A1 A2:Option Addr} {a1 a2:Nat} {y:Qk} {os:List Qv} {E':Q9} {ov':Value}
theorem Zu.later (h:Zu w wr bx B p c g n nq lab i t op qp tp A1 A2 a1 a2 y os lab' E' ov') (hb:Below wr.heap.size wr w'):Zu w w' bx B p c g n nq lab i t op qp tp A1 A2 a1 a2 y os lab' E' ov' :=
 { h with m:=h.m.later hb,o:=⟨Qi h.o.1 hb,h.o.2⟩,st:=h.st.trans (QE.below hb),lxw:=Nat.lt_of_lt_of_le h.lxw hb.size,x0:=keep hb h.x0,x1:=keep hb h.x1,c0:=keep hb h.c0,c1:=keep hb h.c1,c2:=keep hb h.c2,c3:=keep hb h.c3,c5:=keep hb h.c5,tx:=h.tx.later hb,tb:=h.tb.out (O:=fun _=>False) (Qg.of_below hb) (fun _ e=>e.elim) }
theorem QM.later (h:QM w wr bx B p c g n nq lab i t op qp tp A1 A2 a1 a2 y os) (hb:Below wr.heap.size wr w'):QM w w' bx B p c g n nq lab i t op qp tp A1 A2 a1 a2 y os:=by
 obtain ⟨lab',E',ov',h⟩:=h
 exact ⟨lab',E',ov',h.later hb⟩
theorem Zu.turn (h:Zu w wr bx B p c g n nq lab i t op qp tp A1 A2 a1 a2 y os lab' E' ov') {O:Nat->Prop} {lab2:Nat->QL} (ho:Qg O wr w') (hOB:∀ k,O k->B<=k) (hop:¬ O op) (hxO:¬ O bx) (htx:QY w' t A1 A2) (hst:QE wr w' lab' lab2) {y':Qk} {E2:Q9} {ov2:Value} {os2:List Qv} (hm:Qo w' B p c g lab2 y' E2 ov2) (hr:Q8 w' B lab2 ov2 os2) (hc:QcG n nq y'.s.last E2) (hp:E2.pp i=op) (hq:E2.qp=qp) :
  Zu w w' bx B p c g n nq lab i t op qp tp A1 A2 a1 a2 y' os2 lab2 E2 ov2:=by
 have hlt:∀ k,lab' k ≠ .no->k<wr.heap.size:=fun k hk=>(h.m.lt k hk).2
 have hon:∀ k,lab' k = .one i->lab2 k = .one i:=fun k e=>(hst.ext k (hlt k (by rw [e];intro z;cases z))).trans e
 exact { m:=hm,o:=hr,st:=h.st.trans hst,cn:=hc,pq:=hp,qq:=hq,lb:=(hst.ext op (hlt op (by rw [h.lb];intro z;cases z))).trans h.lb,lx:=(hst.ext bx h.lxw).trans h.lx,lxw:=Nat.lt_of_lt_of_le h.lxw ho.size,x0:=ho.cell h.x0 hxO,x1:=ho.cell h.x1 hxO,c0:=ho.cell h.c0 hop,c1:=ho.cell h.c1 hop,c2:=ho.cell h.c2 hop,c3:=ho.cell h.c3 hop,c5:=ho.cell h.c5 hop,tx:=htx,oA:=h.oA.mono hon,oA':=h.oA'.mono hon,tb:=h.tb.out ho hOB }
theorem Zu.txo (h:Zu w wr bx B p c g n nq lab i t op qp tp A1 A2 a1 a2 y os lab' E' ov') {O:Nat->Prop} (ho:Qg O wr w') (hOB:∀ k,O k->B<=k) (hO:∀ k,O k->lab' k ≠ .one i):QY w' t A1 A2 :=
 VH h.tx ho (h.oA.not hOB (fun k e ok=>hO k ok e)) (h.oA'.not hOB (fun k e ok=>hO k ok e))
theorem Zu.turnL (h:Zu w wr bx B p c g n nq lab i t op qp tp A1 A2 a1 a2 y os lab' E' ov') {O:Nat->Prop} {l:QL} (ho:Qg O wr w') (hO:∀ k,O k->lab' k=l) (hl:l ≠ .no) (hlo:l ≠ .out) (hop:¬ O op) (htx:QY w' t A1 A2) {y':Qk} {E2:Q9} (hm:Qo w' B p c g (relab lab' wr w' l) y' E2 ov') (hc:QcG n nq y'.s.last E2) (hp:E2.pp i=op) (hq:E2.qp=qp) :
  Zu w w' bx B p c g n nq lab i t op qp tp A1 A2 a1 a2 y' os (relab lab' wr w' l) E2 ov' :=
 h.turn ho (fun k e=>(h.m.lt k (by rw [hO k e];exact hl)).1) hop (fun e=>hl ((hO _ e).symm.trans h.lx)) htx (QE.relab ho hO hl) hm (h.o.rest ho hO (fun k hk=>(h.m.lt k hk).2) hlo) hc hp hq
theorem Zu.one (h:Zu w wr bx B p c g n nq lab i t op qp tp A1 A2 a1 a2 y os lab' E' ov') {O:Nat->Prop} {l:QL} (hO:∀ k,O k->lab' k=l) (hl:l ≠ .one i):¬ O op:=fun e=>hl ((hO _ e).symm.trans h.lb)
def Qbn (p bx op:Nat) (j0:Nat->Prop) (wr w':World):Prop:=∀ b' j v,(b'=p/\j0 j \/ b'=bx \/ b'=op)->wr.cell? ⟨b',j,none⟩=some v->w'.cell? ⟨b',j,none⟩=some v
theorem Zu.keeps (h:Zu w wr bx B p c g n nq lab i t op qp tp A1 A2 a1 a2 y os lab' E' ov') {O:Nat->Prop} (ho:Qg O wr w') (hp:¬ O p) (hop:¬ O op) (hx:¬ O bx):Qbn p bx op (fun _=>True) wr w':=fun b' j v hb' hv=>ho.cell hv (fun e=>by
 rcases hb' with ⟨rfl,_⟩ | rfl | rfl
 ·exact hp e
 ·exact hx e
 ·exact hop e)
theorem Zu.keepsL (h:Zu w wr bx B p c g n nq lab i t op qp tp A1 A2 a1 a2 y os lab' E' ov') {O:Nat->Prop} {l:QL} (ho:Qg O wr w') (hO:∀ k,O k->lab' k=l) (hl:l ≠ .no) (hm:l ≠ .m) (hop:¬ O op):Qbn p bx op (fun _=>True) wr w' :=
 h.keeps ho (fun e=>hm ((hO _ e).symm.trans h.m.lm)) hop (fun e=>hl ((hO _ e).symm.trans h.lx))
theorem QM.done (h:QM w wr bx B p c g n nq lab i t op qp tp A1 A2 a1 a2 y os) (hq:Jc y.q) {s:Nat} (hn:Z2 y.q=some (i,s)) {wz:World} (hb:Below wr.heap.size wr wz) :
  Calls Tryz.prog 97 #[.pointer (some ⟨qp,0,none⟩),.agg #[.int .i64 i.ses,.int .i64 i.seq]] wz fun e w'=>e = .returned (.bool true)/\QM w w' bx B p c g n nq lab i t op qp tp A1 A2 a1 a2 { y with q:=YV y.q } os/\Qbn p bx op (fun _=>True) wz w':=by
 obtain ⟨lab',E',ov',h⟩:=h
 have hd:=h.later hb
 obtain ⟨qv,qes,hQ⟩:=hd.m.q
 have hqq:=h.qq
 rw [<- hqq]
 refine (Qoz hQ hq hn).mono ?_
 rintro e w2 ⟨rfl,hq2,ho2⟩
 rw [hqq]
 have hop:=hd.one (O:=fun k=>lab' k = .q) (l:=.q) (fun k e=>e) (by intro z;cases z)
 exact ⟨rfl,⟨_,E',ov',hd.turnL ho2 (l:=.q) (fun k e=>e) (by decide) (by decide) hop (hd.txo ho2 (fun k e=>(hd.m.lt k (by rw [e];decide)).1) (fun k e=>by rw [e];intro z;cases z)) (hd.m.setQ ho2 hq2) h.cn h.pq h.qq⟩,hd.keepsL ho2 (l:=.q) (fun k e=>e) (by decide) (by decide) hop⟩
theorem QM.delW (h:QM w wr bx B p c g n nq lab i t op qp tp A1 A2 a1 a2 y os) (hid:Y6 i) {mw:Nat} (h5:wr.cell? ⟨p,5,none⟩=some (.map (some mw))) :
  ∃ w',(∀ ty,(Builtin.delete_ #[102,34] ty #[.map (some mw),.agg #[.int .i64 i.ses,.int .i64 i.seq]]).run Tryz.prog wr.drew = .ok (.tuple #[]) w')/\QM w w' bx B p c g n nq lab i t op qp tp A1 A2 a1 a2 { y with wt:=Zc y.wt i } os/\Qbn p bx op (fun _=>True) wr.drew w':=by
 obtain ⟨lab',E',ov',h⟩:=h
 obtain ⟨_,_,_,_,_,c5,_⟩:=h.m.cs
 rw [c5] at h5
 obtain rfl:E'.mw=mw:=by injection h5 with h5;injection h5 with h5;injection h5
 have hd:=h.later (Qb (Below.refl wr.heap.size wr))
 obtain ⟨w2,hrun,hm2,ht2⟩:=Za.del VX hd.m.hw Tryz.underlying102 i hid 0
 have ho2:Qg (fun k=>k=E'.mw) wr.drew w2:=Qg.of_turned ht2
 have hl:∀ k,k=E'.mw->lab' k = .mw:=fun k e=>by rw [e];exact h.m.lmw
 have hop:=hd.one hl (by intro z;cases z)
 exact ⟨w2,fun ty=>hrun,⟨_,_,ov',hd.turnL ho2 (l:=.mw) hl (by decide) (by decide) hop (hd.txo ho2 (fun k e=>(hd.m.lt k (by rw [hl k e];decide)).1) (fun k e=>by rw [hl k e];intro z;cases z)) (hd.m.delOne ht2 hm2) { h.cn with } h.pq h.qq⟩,hd.keepsL ho2 hl (by decide) (by decide) hop⟩
theorem QM.addD (h:QM w wr bx B p c g n nq lab i t op qp tp A1 A2 a1 a2 y os) (hid:Y6 i) (hn:nq<=2000) {md:Nat} (h6:wr.cell? ⟨p,6,none⟩=some (.map (some md))) (yes:Bool) (s:Nat) :
  ∃ w',(Instr.mapUpdate 103 (.map (some md)) (.agg #[.int .i64 i.ses,.int .i64 i.seq]) (.agg #[.bool yes,.int .u64 (s:Int)])).run Tryz.prog wr.drew = .ok () w'/\QM w w' bx B p c g n (nq+1) lab i t op qp tp A1 A2 a1 a2 { y with dc:=Qs y.dc i (yes,s) } os/\Qbn p bx op (fun _=>True) wr.drew w':=by
 obtain ⟨lab',E',ov',h⟩:=h
 obtain ⟨_,_,_,_,_,_,c6,_⟩:=h.m.cs
 rw [c6] at h6
 obtain rfl:E'.md=md:=by injection h6 with h6;injection h6 with h6;injection h6
 have hd:=h.later (Qb (Below.refl wr.heap.size wr))
 obtain ⟨w2,hrun,hm2,ht2⟩:=Za.put VX hd.m.hd Tryz.underlying103 (by have:=h.cn.nd;unfold maxLen;omega) i hid (.agg #[.bool yes,.int .u64 (s:Int)])
 have ho2:Qg (fun k=>k=E'.md) wr.drew w2:=Qg.of_turned ht2
 have hl:∀ k,k=E'.md->lab' k = .md:=fun k e=>by rw [e];exact h.m.lmd
 have hop:=hd.one hl (by intro z;cases z)
 have hd2:Zu w wr.drew bx B p c g n (nq+1) lab i t op qp tp A1 A2 a1 a2 y os lab' E' ov':={ hd with cn:={ hd.cn with nd:=Nat.le_succ_of_le hd.cn.nd } }
 exact ⟨w2,hrun,⟨_,_,ov',hd2.turnL ho2 (l:=.md) hl (by decide) (by decide) hop (hd2.txo ho2 (fun k e=>(hd2.m.lt k (by rw [hl k e];decide)).1) (fun k e=>by rw [hl k e];intro z;cases z)) (hd.m.addDec (d:=(yes,s)) ht2 hm2) { h.cn with nd:=Nat.succ_le_succ h.cn.nd } h.pq h.qq⟩,hd.keepsL ho2 hl (by decide) (by decide) hop⟩
theorem QM.one (h:QM w wr bx B p c g n nq lab i t op qp tp A1 A2 a1 a2 y os) {v:Zj} (hv:Qe y.wt i=some v):∃ lab' E' ov' C1 C2 Ag c1 c2 ag tg tb tc,Zu w wr bx B p c g n nq lab i t op qp tp A1 A2 a1 a2 y os lab' E' ov'/\QaU wr B op (fun k=>lab' k = .one i) v C1 C2 Ag c1 c2 ag tp tg tb tc:=by
 obtain ⟨lab',E',ov',h⟩:=h
 obtain ⟨C1,C2,Ag,c1,c2,ag,tp',tg,tb,tc,hI⟩:=h.m.wt _ v hv
 rw [h.pq] at hI
 have h5:wr.cell? ⟨op,5,none⟩=some (.pointer (some ⟨tp',0,none⟩)):=by rw [cell_of_row wr _ _ _ _ _ hI.blk];rfl
 rw [h.c5] at h5
 obtain rfl:tp=tp':=by injection h5 with h5;injection h5 with h5;injection h5 with h5;injection h5
 exact ⟨lab',E',ov',C1,C2,Ag,c1,c2,ag,tg,tb,tc,h,hI⟩
theorem QM.voted (h:QM w wr bx B p c g n nq lab i t op qp tp A1 A2 a1 a2 y os) {v:Zj} (hv:Qe y.wt i=some v) (hT:Yh v.gs v.vs) (hg:0<=g/\g<4) {wz:World} (hb:Below wr.heap.size wr wz) :
  Calls Tryz.prog 92 #[.pointer (some ⟨tp,0,none⟩),.int .i64 g] wz fun e w'=>e = .returned (.tuple #[.bool (Zh v.vs g),.bool (QU v.vs g)])/\Below wz.heap.size wz w':=by
 obtain ⟨lab',E',ov',C1,C2,Ag,c1,c2,ag,tg,tb,tc,h,hI⟩:=h.one hv
 exact QfJ g (by omega) (by omega) wz (hI.tal.later hb) hT
theorem QM.outcome (h:QM w wr bx B p c g n nq lab i t op qp tp A1 A2 a1 a2 y os) {v:Zj} (hv:Qe y.wt i=some v) (hT:Yh v.gs v.vs) {wz:World} (hb:Below wr.heap.size wr wz) :
  Calls Tryz.prog 96 #[.pointer (some ⟨tp,0,none⟩)] wz (QcC wz v.gs.length v.vs):=by
 obtain ⟨lab',E',ov',C1,C2,Ag,c1,c2,ag,tg,tb,tc,h,hI⟩:=h.one hv
 exact Qio wz (hI.tal.later hb) hT
theorem QM.put (h:QM w wr bx B p c g n nq lab i t op qp tp A1 A2 a1 a2 y os) {v:Zj} (hv:Qe y.wt i=some v) (hT:Yh v.gs v.vs) (h4:v.gs.length<=4) (hg:0<=g/\g<4) (s:Bool) {wz:World} (hb:Below wr.heap.size wr wz) :
  Calls Tryz.prog 90 #[.pointer (some ⟨tp,0,none⟩),.int .i64 g,.bool s] wz fun e w'=>(∃ z:Bool,e = .returned (.bool z))/\QM w w' bx B p c g n nq lab i t op qp tp A1 A2 a1 a2 { y with wt:=Qs y.wt i { v with vs:=ZS v.gs v.vs g s } } os/\Qbn p bx op (fun _=>True) wz w':=by
 obtain ⟨lab',E',ov',C1,C2,Ag,c1,c2,ag,tg,tb,tc,h,hI⟩:=(h.later hb).one hv
 refine (Qe6 g s (by omega) (by omega) (by omega) _ hI.tal hT).mono ?_
 rintro e w2 ⟨rfl,ht2,hg2⟩
 have hI':=hI
 rw [<- h.pq] at hI'
 obtain ⟨hM2,ho2⟩:=h.m.vote hv hI' ht2 hg2
 have hl:∀ k,k=tb->lab' k = .one i:=fun k e=>by rw [e];exact hI.ltb
 have htq:¬ op=tb:=fun e=>by
  obtain ⟨es,clock,hb,_⟩:=hI.tal.own
  have h1:=hI.blk
  rw [e,hb] at h1
  cases h1
 exact ⟨⟨_,rfl⟩,⟨_,E',ov',h.turnL ho2 hl (by intro z;cases z) (by intro z;cases z) htq (by
  obtain ⟨es,clock,hb,_⟩:=hI.tal.own
  exact VH h.tx ho2 (Qeh h.tx hb).1 (Qeh h.tx hb).2) hM2 { h.cn with } h.pq h.qq⟩,h.keepsL ho2 hl (by intro z;cases z) (by intro z;cases z) htq⟩
theorem QM.tell (h:QM w wr bx B p c g n nq lab i t op qp tp A1 A2 a1 a2 y os) {v:Zj} (hv:Qe y.wt i=some v) (h4:v.gs.length<=4) (hos:os.length<=900000) (kd:Int) (s:Nat) (b:Bool) {wz:World} (hb:Below wr.heap.size wr wz) :
  Calls Tryz.prog 95 #[.pointer (some ⟨p,0,none⟩),.pointer (some ⟨op,0,none⟩),.agg #[.int .i64 kd,.int .i64 0,.int .i64 0,.int .i64 0,.int .u64 (s:Int),.bool b]] wz fun e w'=>e = .returned (.tuple #[])/\QM w w' bx B p c g n nq lab i t op qp tp A1 A2 a1 a2 y (os ++ Zb g v.gs kd (Qd v.t) s b):=by
 obtain ⟨lab',E',ov',h⟩:=h.later hb
 have hc:=Qhn h.m h.o hv h4 hos kd s b
 rw [h.pq] at hc
 refine hc.mono ?_
 rintro e w2 ⟨rfl,⟨lab2,ov2,hM2,hR2,hE2⟩,ho2⟩
 have hop:¬ (lab' op = .m \/ lab' op = .out):=by rw [h.lb];intro e;rcases e with e | e <;> cases e
 have hx:¬ (lab' bx = .m \/ lab' bx = .out):=by rw [h.lx];intro e;rcases e with e | e <;> cases e
 exact ⟨rfl,⟨lab2,E',ov2,h.turn ho2 (fun k e=>(h.m.lt k (by rcases e with e | e <;> (rw [e];decide))).1) hop hx (h.txo ho2 (fun k e=>(h.m.lt k (by rcases e with e | e <;> (rw [e];decide))).1) (fun k e=>by rcases e with e | e <;> (rw [e];intro z;cases z))) (QE.tell hE2 ho2) hM2 hR2 h.cn h.pq h.qq⟩⟩
theorem QM.push (h:QM w wr bx B p c g n nq lab i t op qp tp A1 A2 a1 a2 y os) (o:Qv):∃ lab' E' ov',Zu w wr bx B p c g n nq lab i t op qp tp A1 A2 a1 a2 y os lab' E' ov'/\Qnz wr B p lab' ov' os o:=by
 obtain ⟨lab',E',ov',h⟩:=h
 exact ⟨lab',E',ov',h,h.m.pushW h.o o⟩
theorem Zu.pushed (h:Zu w wr bx B p c g n nq lab i t op qp tp A1 A2 a1 a2 y os lab' E' ov') {w15:World} {ov2:Value} {o:Qv} (hg:(wr.alloc (YS o)).grownBy w15 ov'.ownBlock) (hO:w15.ownsRow B 43 6 ov2 (os.length+1) (ZV os ++ X7 o)) (hv:ov2.ownBlock=ov'.ownBlock \/ ov2.ownBlock=some (wr.alloc (YS o)).heap.size) :
  QM w (w15.setCell ⟨p,11,none⟩ ov2) bx B p c g n nq lab i t op qp tp A1 A2 a1 a2 y (os ++ [o]):=by
 obtain ⟨h1,h2,h3,h4⟩:=(h.m.later (Qc wr (YS o))).pushOut h.o.2 hg hO hv
 have ho:Qg (fun k=>lab' k = .m \/ lab' k = .out) wr (w15.setCell ⟨p,11,none⟩ ov2):=(Qg.of_below (Qc wr (YS o))).trans' h4
 have hop:¬ (lab' op = .m \/ lab' op = .out):=by rw [h.lb];intro e;rcases e with e | e <;> cases e
 have hx:¬ (lab' bx = .m \/ lab' bx = .out):=by rw [h.lx];intro e;rcases e with e | e <;> cases e
 refine ⟨_,E',_,h.turn ho (fun k e=>(h.m.lt k (by rcases e with e | e <;> (rw [e];decide))).1) hop hx (h.txo ho (fun k e=>(h.m.lt k (by rcases e with e | e <;> (rw [e];decide))).1) (fun k e=>by rcases e with e | e <;> (rw [e];intro z;cases z))) ((QE.below (Qc wr (YS o))).trans (QE.tell (K1 lab' _ _ _) h4)) h1 ⟨?_,h3⟩ h.cn h.pq h.qq⟩
 rw [KE,List.length_append]
 exact h2
theorem QM.sp (h:QM w wr bx B p c g n nq lab i t op qp tp A1 A2 a1 a2 y os):∃ sp,wr.cell? ⟨p,4,none⟩=some (.pointer (some ⟨sp,0,none⟩)):=by
 obtain ⟨lab',E',ov',h⟩:=h
 obtain ⟨_,_,_,_,c4,_⟩:=h.m.cs
 exact ⟨_,c4⟩
theorem QM.last (h:QM w wr bx B p c g n nq lab i t op qp tp A1 A2 a1 a2 y os) {sp:Nat} (h4:wr.cell? ⟨p,4,none⟩=some (.pointer (some ⟨sp,0,none⟩))) {wz:World} (hb:Below wr.heap.size wr wz) :
  (Calls Tryz.prog 58 #[.pointer (some ⟨sp,0,none⟩)] wz fun e w'=>e = .returned (.int .u64 (y.s.last:Int))/\wz=w')/\(Calls Tryz.prog 54 #[.pointer (some ⟨sp,0,none⟩)] wz fun e w'=>e = .returned (.int .u64 (y.s.low:Int))/\wz=w'):=by
 obtain ⟨lab',E',ov',h⟩:=h
 obtain ⟨_,_,_,_,c4,_⟩:=h.m.cs
 rw [c4] at h4
 obtain rfl:E'.sp=sp:=by injection h4 with h4;injection h4 with h4;injection h4 with h4;injection h4
 exact ⟨Qbd (h.later hb).m.s,QkQ (h.later hb).m.s⟩
theorem Zu.apply (h:Zu w wr bx B p c g n nq lab i t op qp tp A1 A2 a1 a2 y os lab' E' ov') {sp:Nat} (h4:wr.cell? ⟨p,4,none⟩=some (.pointer (some ⟨sp,0,none⟩))) (hs:Yw y.s) (hl:y.s.last<=2000) (hI:(Qq y.s.ks).length<=6 * y.s.last) {ws:List Wr} {A:Option Addr} {ca:Nat} (hA:Yf wr A ws) (hf:∀ a,A=some a->lab' a.block = .no) (hok:Qad ws) (hw:Yv ws=true) (h6:ws.length<=6) {m:Nat} (hm:m=y.s.last+1) :
  Calls Tryz.prog 99 #[.pointer (some ⟨sp,0,none⟩),.int .u64 (m:Int),.slice A ws.length ca] wr fun e w'=>(∃ z:Int,e = .returned (.int .i64 z))/\QM w w' bx B p c g n nq lab i t op qp tp A1 A2 a1 a2 { y with s:=QH y.s m ws } os/\Qbn p bx op (fun _=>True) wr w':=by
 obtain ⟨_,_,_,_,c4,_⟩:=h.m.cs
 rw [c4] at h4
 obtain rfl:E'.sp=sp:=by injection h4 with h4;injection h4 with h4;injection h4 with h4;injection h4
 have hN:=h.cn.nN
 have hBs:E'.sB<=wr.heap.size:=by
  obtain ⟨mb,D,V,hS⟩:=h.m.s
  have:=hS.lt _ hS.hp
  omega
 refine (Qh5 h.m.s hBs hs m ws A ca hA (fun a e _ hl=>by rw [hf a e] at hl;cases hl) hok h.tb.t (by omega) (by omega)).mono ?_
 rintro e w2 ⟨rfl,hs2,ho2⟩
 have hop:=h.one (O:=fun k=>lab' k = .s) (l:=.s) (fun k e=>e) (by intro z;cases z)
 have hlast:(QH y.s m ws).last=m:=by rw [QH,if_neg (by omega),if_pos hw]
 exact ⟨⟨_,rfl⟩,⟨_,_,ov',h.turnL ho2 (l:=.s) (fun k e=>e) (by decide) (by decide) hop (h.txo ho2 (fun k e=>(h.m.lt k (by rw [e];decide)).1) (fun k e=>by rw [e];intro z;cases z)) (h.m.setS ho2 hs2) { h.cn with nN:=by show E'.N+ws.length<=6 * (QH y.s m ws).last;rw [hlast];omega } h.pq h.qq⟩,h.keepsL ho2 (l:=.s) (fun k e=>e) (by decide) (by decide) hop⟩
theorem QM.collect (h:QM w wr bx B p c g n nq lab i t op qp tp A1 A2 a1 a2 y os) {sp:Nat} (h4:wr.cell? ⟨p,4,none⟩=some (.pointer (some ⟨sp,0,none⟩))) (hs:Yw y.s) (hl:y.s.last<=2001) (hI:(Qq y.s.ks).length<=800000) (m:Nat) :
  Calls Tryz.prog 100 #[.pointer (some ⟨sp,0,none⟩),.int .u64 (m:Int)] wr fun e w'=>(∃ z z':Int,e = .returned (.tuple #[.int .i64 z,.int .i64 z']))/\QM w w' bx B p c g n nq lab i t op qp tp A1 A2 a1 a2 { y with s:=Zv y.s m } os:=by
 obtain ⟨lab',E',ov',h⟩:=h
 obtain ⟨_,_,_,_,c4,_⟩:=h.m.cs
 rw [c4] at h4
 obtain rfl:E'.sp=sp:=by injection h4 with h4;injection h4 with h4;injection h4 with h4;injection h4
 have hN:=h.cn.nN
 have hBs:E'.sB<=wr.heap.size:=by
  obtain ⟨mb,D,V,hS⟩:=h.m.s
  have:=hS.lt _ hS.hp
  omega
 refine (Qlv h.m.s hBs hs m (by omega) hI).mono ?_
 rintro e w2 ⟨rfl,hs2,ho2⟩
 have hop:=h.one (O:=fun k=>lab' k = .s) (l:=.s) (fun k e=>e) (by intro z;cases z)
 have hlast:(Zv y.s m).last=y.s.last:=by unfold Zv;split <;> rfl
 exact ⟨⟨_,_,rfl⟩,⟨_,_,ov',h.turnL ho2 (l:=.s) (fun k e=>e) (by decide) (by decide) hop (h.txo ho2 (fun k e=>(h.m.lt k (by rw [e];decide)).1) (fun k e=>by rw [e];intro z;cases z)) (h.m.setS ho2 hs2) { h.cn with nN:=by show E'.N<=6 * (Zv y.s m).last;rw [hlast];exact hN } h.pq h.qq⟩⟩
theorem Qo.setA {w5 w15:World} {x:Qk} {E:Q9} {ov v':Value} {lab:Nat->QL} {a':List Nat} (h:Qo w5 B p c g lab x E ov) (hg:w5.grownBy w15 E.av.ownBlock) (hr:QC w15 B 39 v' (Jv a')) (hv:v'.ownBlock=E.av.ownBlock \/ ∀ k,v'.ownBlock=some k->w5.heap.size<=k) :
  Qo (w15.setCell ⟨p,9,none⟩ v') B p c g (relab lab w5 w15 .at_) { x with a:=a' } { E with av:=v' } ov/\Qg (fun k=>lab k = .at_) w5 w15:=by
 have ho:Qg (fun k=>E.av.ownBlock=some k) w5 w15:=Qg.of_grown hg (fun k e=>e)
 obtain ⟨R,hb,hp⟩:=h.rest ho (fun k e=>h.la k e) (l:=.at_) (by decide) (by decide)
 have hla:∀ k,v'.ownBlock=some k->relab lab w5 w15 .at_ k = .at_:=fun k e=>by
  have h2:=(hr.lt k e).2
  rcases hv with hv | hv
  ·rw [hv] at e;exact R.la k e
  ·rw [relab,if_pos ⟨hv k e,h2⟩]
 have hR:MachR w15 B c (relab lab w5 w15 .at_) { x with a:=a' } { E with av:=v' }:={ cfg:=R.cfg,oA:=R.oA,oA':=R.oA',q:=R.q (by decide),s:=R.s (by decide),hw:=R.hw (by decide),hd:=R.hd (by decide),hs:=R.hs (by decide),hv:=R.hv (by decide),lmw:=R.lmw,lmd:=R.lmd,lms:=R.lms,lmv:=R.lmv,kw:=R.kw,kd:=R.kd,ks:=R.ks,kv:=R.kv,wt:=fun i v e=>R.wt i v (by intro z;cases z) e,a:=hr,la:=hla,log:=R.log (by decide),ll:=R.ll,lt:=R.lt }
 have hBp:∀ k,k=p->B<=k:=fun k e=>by rw [e];exact (R.lt p (by rw [hp];decide)).1
 have hR2:=hR.out (QQ w15 p 9 v') (fun k _ h2 _ e=>h2 (by rw [e];exact hp)) hBp
 exact ⟨{ hR2 with blk:=ZJ v' hb,lm:=hp },ho.mono (fun k e=>h.la k e)⟩
theorem Zu.av (h:Zu w wr bx B p c g n nq lab i t op qp tp A1 A2 a1 a2 y os lab' E' ov'):wr.cell? ⟨p,9,none⟩=some E'.av/\QC wr B 39 E'.av (Jv y.a)/\(∀ k,E'.av.ownBlock=some k->k ≠ p):=by
 obtain ⟨_,_,_,_,_,_,_,_,_,c9,_⟩:=h.m.cs
 exact ⟨c9,h.m.a,fun k e z=>by
  have:=h.m.la k e
  rw [z,h.m.lm] at this
  cases this⟩
theorem Zu.setAv (h:Zu w wr bx B p c g n nq lab i t op qp tp A1 A2 a1 a2 y os lab' E' ov') {w15:World} {v':Value} {a':List Nat} (hg:wr.grownBy w15 E'.av.ownBlock) (hr:QC w15 B 39 v' (Jv a')) (hv:v'.ownBlock=E'.av.ownBlock \/ ∀ k,v'.ownBlock=some k->wr.heap.size<=k) :
  QM w (w15.setCell ⟨p,9,none⟩ v') bx B p c g n nq lab i t op qp tp A1 A2 a1 a2 { y with a:=a' } os/\(∀ b' j v,((b'=p/\j ≠ 9) \/ b'=bx \/ b'=op)->wr.cell? ⟨b',j,none⟩=some v->(w15.setCell ⟨p,9,none⟩ v').cell? ⟨b',j,none⟩=some v):=by
 obtain ⟨hM,ho⟩:=h.m.setA hg hr hv
 have hlt:∀ k,lab' k ≠ .no->k<wr.heap.size:=fun k hk=>(h.m.lt k hk).2
 have oP:=QQ w15 p 9 v'
 have hno:∀ {k:Nat},lab' k ≠ .at_->lab' k ≠ .m->¬ ((fun k=>lab' k = .at_ \/ k=p) k):=fun h1 h2 e=>e.elim h1 (fun z=>h2 (by rw [z];exact h.m.lm))
 have ho2:Qg (fun k=>lab' k = .at_ \/ k=p) wr (w15.setCell ⟨p,9,none⟩ v'):=(ho.mono fun k e=>.inl e).trans' (oP.mono fun k e=>.inr e)
 have hr15:Q8 w15 B (relab lab' wr w15 .at_) ov' os:=h.o.rest ho (fun k e=>e) hlt (by decide)
 have hrow:Q8 (w15.setCell ⟨p,9,none⟩ v') B (relab lab' wr w15 .at_) ov' os:=⟨oP.row hr15.1 (fun k e z=>by
  have:=hr15.2 k e
  rw [z,hM.lm] at this
  cases this),hr15.2⟩
 have hst:QE wr (w15.setCell ⟨p,9,none⟩ v') lab' (relab lab' wr w15 .at_):=⟨K1 lab' wr w15 .at_,ho2.mono fun k e=>by rcases e with e | e;(rw [e];decide);(rw [e,h.m.lm];decide)⟩
 refine ⟨⟨_,_,ov',h.turn ho2 (fun k e=>(h.m.lt k (by rcases e with e | e;(rw [e];decide);(rw [e,h.m.lm];decide))).1) (hno (by rw [h.lb];intro z;cases z) (by rw [h.lb];intro z;cases z)) (hno (by rw [h.lx];decide) (by rw [h.lx];decide)) (h.txo ho2 (fun k e=>(h.m.lt k (by rcases e with e | e;(rw [e];decide);(rw [e,h.m.lm];decide))).1) (fun k e=>by rcases e with e | e;(rw [e];intro z;cases z);(rw [e,h.m.lm];intro z;cases z))) hst hM hrow { h.cn with } h.pq h.qq⟩,fun b' j v hb' hc=>?_⟩
 rcases hb' with ⟨rfl,hj⟩ | rfl | rfl
 ·have h1:w15.cell? ⟨b',j,none⟩=some v:=ho.cell hc (fun e=>by rw [h.m.lm] at e;cases e)
  obtain ⟨_,hb15,_⟩:=h.m.rest ho (fun k e=>e) (l:=.at_) (by decide) (by decide)
  rw [cell_of_row w15 _ _ _ _ _ hb15] at h1
  rw [cell_of_row _ _ _ _ _ _ (ZJ v' hb15),Array.getElem?_setIfInBounds_ne (Ne.symm hj)]
  exact h1
 ·exact ho2.cell hc (hno (by rw [h.lx];decide) (by rw [h.lx];decide))
 ·exact ho2.cell hc (hno (by rw [h.lb];intro z;cases z) (by rw [h.lb];intro z;cases z))
end
theorem QlD {κ V:Type} [DecidableEq κ] (kv:List (κ × V)) (k:κ) (v:V):Zc (Qs kv k v) k=Zc kv k:=by
 unfold Zc Qs
 rw [List.filter_cons,if_neg (by simp),List.filter_filter]
 simp
def VJ (w wr:World) (B p:Nat) (c:Ql) (g:Int) (n:Nat) (lab:Nat->QL) (qp:Nat) (y:Qk) (os:List Qv):Prop:=∃ lab' E' ov',ZW wr B p c g n lab' y E' ov' os/\QE w wr lab lab'/\E'.qp=qp
section
variable {w wr w':World} {bx B p n nq:Nat} {c:Ql} {g:Int} {lab lab':Nat->QL} {i:Qp} {t:Tx} {op qp tp:Nat} {A1 A2:Option Addr} {a1 a2:Nat} {y:Qk} {os:List Qv} {E':Q9} {ov':Value}
theorem VJ.start (h:VJ w wr B p c g n lab qp y os) {v:Zj} (hv:Qe y.wt i=some v) (hw:Below wr.heap.size wr w') (hbx:wr.heap.size<=bx) (hbw:bx<w'.heap.size) (x0:w'.cell? ⟨bx,0,none⟩=some (.int .i64 i.ses)) (x1:w'.cell? ⟨bx,1,none⟩=some (.int .i64 i.seq)) :
  ∃ op tp A1 A2 a1 a2,QM w w' bx B p c g n (n-y.q.l.length) lab i v.t op qp tp A1 A2 a1 a2 y os/\∀ (mw:Nat) wz,wr.cell? ⟨p,5,none⟩=some (.map (some mw))->Y6 i->Below wr.heap.size wr wz->(Instr.lookup 102 (.map (some mw)) (.agg #[.int .i64 i.ses,.int .i64 i.seq]) false).run Tryz.prog wz = .ok (.pointer (some ⟨op,0,none⟩)) wz:=by
 obtain ⟨lab',E',ov',h,hs,hq⟩:=h
 have hlt:=h.lt
 have hlook:∀ (mw:Nat) wz,wr.cell? ⟨p,5,none⟩=some (.map (some mw))->Y6 i->Below wr.heap.size wr wz->(Instr.lookup 102 (.map (some mw)) (.agg #[.int .i64 i.ses,.int .i64 i.seq]) false).run Tryz.prog wz = .ok (.pointer (some ⟨E'.pp i,0,none⟩)) wz:=fun mw wz h5 hok hb=>by
  obtain ⟨_,_,_,_,_,c5,_⟩:=h.m.cs
  rw [c5] at h5
  obtain rfl:E'.mw=mw:=by injection h5 with h5;injection h5 with h5;injection h5
  have:=h.m.lookW hok hb
  rw [hv] at this
  exact this
 have h2:=h.later hw
 obtain ⟨C1,C2,Ag,c1,c2,ag,tp,tg,tb,tc,hI⟩:=h2.m.wt _ v hv
 refine ⟨E'.pp i,tp,C1,C2,c1,c2,⟨lab',E',ov',{ m:=h2.m,o:=h2.o,st:=hs.trans (QE.below hw),cn:=h2.cn.c,pq:=rfl,qq:=hq,lb:=hI.lp,lx:=?_,lxw:=hbw,x0:=x0,x1:=x1,c0:=?_,c1:=?_,c2:=?_,c3:=?_,c5:=?_,tx:=hI.tx,oA:=hI.oA,oA':=hI.oA',tb:=h2.tb }⟩,hlook⟩
 ·cases e:lab' bx
  case no=>rfl
  all_goals exact absurd (hlt bx (by rw [e];intro z;cases z)) (by omega)
 all_goals (rw [cell_of_row w' _ _ _ _ _ hI.blk];rfl)
theorem QM.fin (h:QM w wr bx B p c g n nq lab i t op qp tp A1 A2 a1 a2 y os) (hk:Zd c g n y) (hq:nq+y.q.l.length<=n):VJ w wr B p c g n lab qp y os:=by
 obtain ⟨lab',E',ov',h⟩:=h
 exact ⟨lab',E',ov',{ m:=h.m,o:=h.o,k:=hk,cn:=h.cn.n hq,tb:=h.tb },h.st,h.qq⟩
theorem VJ.later (h:VJ w wr B p c g n lab qp y os) (hb:Below wr.heap.size wr w'):VJ w w' B p c g n lab qp y os:=by
 obtain ⟨lab',E',ov',h,hs,hq⟩:=h
 exact ⟨lab',E',ov',h.later hb,hs.trans (QE.below hb),hq⟩
def U0 (w:World) (qp:Nat):Nat:=match w.cell? ⟨qp,2,none⟩ with | some (.slice _ n _)=>n | _=>0
theorem VJ.len (h:VJ w wr B p c g n lab qp y os):U0 wr qp=y.q.l.length:=by
 obtain ⟨lab',E',ov',h,hs,rfl⟩:=h
 obtain ⟨qv,qes,hQ⟩:=h.m.q
 obtain ⟨_,_,h2⟩:=hQ.cs
 obtain ⟨A,cap,rfl,_⟩:=hQ.at_
 rw [U0,h2, <- hQ.len]
theorem VJ.q (h:VJ w wr B p c g n lab qp y os):Zd c g n y/\wr.cell? ⟨p,3,none⟩=some (.pointer (some ⟨qp,0,none⟩))/\(∃ mw,wr.cell? ⟨p,5,none⟩=some (.map (some mw)))/\Calls Tryz.prog 91 #[.pointer (some ⟨qp,0,none⟩)] wr fun e w'=>e = .returned (JJ y.q)/\Below wr.heap.size wr w':=by
 obtain ⟨lab',E',ov',h,hs,rfl⟩:=h
 obtain ⟨qv,qes,hQ⟩:=h.m.q
 obtain ⟨_,_,_,c3,_,c5,_⟩:=h.m.cs
 exact ⟨h.k,c3,⟨_,c5⟩,Qlq hQ h.k.q⟩
theorem QM.same (h:QM w wr bx B p c g n nq lab i t op qp tp A1 A2 a1 a2 y os) {v:Zj} (hv:Qe y.wt i=some v):QM w wr bx B p c g n nq lab i t op qp tp A1 A2 a1 a2 { y with wt:=Qs y.wt i v } os:=by
 obtain ⟨lab',E',ov',h⟩:=h
 have e:∀ j,Qe (Qs y.wt i v) j=Qe y.wt j:=fun j=>by
  rw [Qw]
  by_cases e:j=i
  ·rw [if_pos e,e,hv]
  ·rw [if_neg e]
 exact ⟨lab',E',ov',{ h with m:={ h.m with kw:=fun j=>by show _=(Qe (Qs y.wt i v) j).map _;rw [e];exact h.m.kw j,wt:=fun j u hu=>h.m.wt j u (by rw [<- e];exact hu) } }⟩
theorem Qet {α:Type} {l:List α} {d:α} {k:Nat} (hk:k<l.length):l.getD k d ∈ l:=by
 rw [List.getD_eq_getElem?_getD,List.getElem?_eq_getElem hk]
 exact List.getElem_mem hk
theorem QlE {t:Tx} {w:World} {A B:Option Addr} (h:QY w t A B) (h6:t.rds.length<=6) (c:Ql) (g:Int):Qgy (Q4 c t g):=by
 refine ⟨fun k hk=>?_,Nat.le_trans (List.length_filter_le _ _) (by omega)⟩
 have hm:(Q4 c t g).getD k XB ∈ t.rds:=(List.mem_filter.1 (Qet hk)).1
 obtain ⟨j,hj,e⟩:=List.mem_iff_getElem.1 hm
 have:=h.rk j hj
 rw [List.getD_eq_getElem?_getD,List.getElem?_eq_getElem hj] at this
 simp only [Option.getD_some] at this
 rw [<- e]
 unfold maxLen
 omega
theorem Qeu {t:Tx} {w:World} {A B:Option Addr} (h:QY w t A B) (h6:t.wrs.length<=6) (c:Ql) (g:Int):Qad (Qr c t g):=by
 have hm:∀ k,k<(Qr c t g).length->∃ j,j<t.wrs.length/\t.wrs.getD j Zf=(Qr c t g).getD k Zf:=fun k hk=>by
  have hm:(Qr c t g).getD k Zf ∈ t.wrs:=(List.mem_filter.1 (Qet hk)).1
  obtain ⟨j,hj,e⟩:=List.mem_iff_getElem.1 hm
  exact ⟨j,hj,by rw [List.getD_eq_getElem?_getD,List.getElem?_eq_getElem hj, <- e];rfl⟩
 refine ⟨fun k hk=>?_,fun k hk=>?_,Nat.le_trans (List.length_filter_le _ _) (by omega)⟩
 ·obtain ⟨j,hj,e⟩:=hm k hk
  rw [<- e];exact h.wk j hj
 ·obtain ⟨j,hj,e⟩:=hm k hk
  rw [<- e];exact h.wv j hj
theorem Zu.reads (h:Zu w wr bx B p c g n nq lab i t op qp tp A1 A2 a1 a2 y os lab' E' ov') (h6:t.rds.length<=6) {wz:World} (hb:Below wr.heap.size wr wz) :
  Calls Tryz.prog 94 #[.agg #[.slice E'.A c.reps.length E'.ca,.slice E'.A' c.bnds.length E'.cb],.agg #[.int .i64 t.ses,.int .i64 t.seq,.slice A1 t.rds.length a1,.slice A2 t.wrs.length a2],.int .i64 g] wz (QaS wz (Q4 c t g)):=by
 have hz:=h.later hb
 exact Qlz c t g E'.A E'.A' A1 A2 E'.ca E'.cb a1 a2 wz hz.m.cfg hz.tx hz.tb.t (by omega)
theorem Zu.writes (h:Zu w wr bx B p c g n nq lab i t op qp tp A1 A2 a1 a2 y os lab' E' ov') (h6:t.wrs.length<=6) {wz:World} (hb:Below wr.heap.size wr wz) :
  Calls Tryz.prog 98 #[.agg #[.slice E'.A c.reps.length E'.ca,.slice E'.A' c.bnds.length E'.cb],.agg #[.int .i64 t.ses,.int .i64 t.seq,.slice A1 t.rds.length a1,.slice A2 t.wrs.length a2],.int .i64 g] wz (QaT wz (Qr c t g)):=by
 have hz:=h.later hb
 exact QjW c t g E'.A E'.A' A1 A2 E'.ca E'.cb a1 a2 wz hz.m.cfg hz.tx hz.tb.t (by omega)
theorem Zu.voteC (h:Zu w wr bx B p c g n nq lab i t op qp tp A1 A2 a1 a2 y os lab' E' ov') (h6:t.rds.length<=6) (hs:Yw y.s) (hI:(Qq y.s.ks).length<=800000) {wz:World} (hb:Below wr.heap.size wr wz) {A:Option Addr} {ca:Nat} (hA:Xj wz A (Q4 c t g)) :
  Calls Tryz.prog 93 #[.pointer (some ⟨E'.sp,0,none⟩),.slice A (Q4 c t g).length ca] wz fun e w'=>e = .returned (.bool (Yj y.s (Q4 c t g)))/\Below wz.heap.size wz w' :=
 Qm5 (h.later hb).m.s hs hI _ A ca hA (QlE h.tx h6 c g)
theorem Zu.avfz (h:Zu w wr bx B p c g n nq lab i t op qp tp A1 A2 a1 a2 y os lab' E' ov') {o:Obj} {w15:World} (hg:(wr.alloc o).grownBy w15 E'.av.ownBlock):w15.cell? ⟨p,9,none⟩=some E'.av/\w15.frozen? ⟨p,9,none⟩=false:=by
 have h2:=h.later (Qc wr o)
 have ho:Qg (fun k=>E'.av.ownBlock=some k) (wr.alloc o) w15:=Qg.of_grown hg (fun k e=>e)
 have hb:=ho.obj h2.m.blk (fun e=>h2.av.2.2 p e rfl)
 exact ⟨by rw [cell_of_row w15 _ _ _ _ _ hb];rfl,frozen_of_row w15 p 9 _ _ hb⟩
theorem Zu.setAv2 (h:Zu w wr bx B p c g n nq lab i t op qp tp A1 A2 a1 a2 y os lab' E' ov') {o:Obj} {w15:World} {v':Value} {s:Nat} (hg:(wr.alloc o).grownBy w15 E'.av.ownBlock) (hr:QC w15 B 39 v' (Jv y.a ++ [.int .u64 (s:Int)])) (hv:v'.ownBlock=E'.av.ownBlock \/ ∀ k,v'.ownBlock=some k->(wr.alloc o).heap.size<=k) :
  QM w (w15.setCell ⟨p,9,none⟩ v') bx B p c g n nq lab i t op qp tp A1 A2 a1 a2 { y with a:=y.a ++ [s] } os/\(∀ b' j v,((b'=p/\j ≠ 9) \/ b'=bx \/ b'=op)->wr.cell? ⟨b',j,none⟩=some v->(w15.setCell ⟨p,9,none⟩ v').cell? ⟨b',j,none⟩=some v):=by
 have e:Jv (y.a ++ [s])=Jv y.a ++ [.int .u64 (s:Int)]:=by simp [Jv]
 obtain ⟨h1,h2⟩:=(h.later (Qc wr o)).setAv (a':=y.a ++ [s]) hg (by rw [e];exact hr) hv
 exact ⟨h1,fun b' j v hb hc=>h2 b' j v hb (keep (Qc wr o) hc)⟩
theorem Qhy:(Tryz.prog.info? 39).map (fun i=>(i.zero,i.size,i.bytes))=some (some (.int .u64 0),1,8):=by kernel_rfl
theorem Vj {s:Int}:∀ u ∈ [Value.int .u64 s],u.oneCell'=true:=fun u hu=>by
 simp at hu;rw [hu];rfl
end
def YH:Ql:=⟨[1],[]⟩
theorem VK:Qn YH=true:=by decide
theorem Qj1 (k:ByteArray):QO YH k=0:=by
 have:=Uo VK k
 have e:(YH.reps.length:Int)=1:=rfl
 omega
theorem Qn7 {t:Tx} (h:Qh t=true):Qf YH t=[0]:=by
 have hne:QJ t ++ QT t ≠ []:=by
  simp only [Qh,Bool.and_eq_true,Bool.not_eq_true',decide_eq_false_iff_not] at h
  intro e
  have e2:=congrArg List.length e
  simp only [QJ,QT,List.length_append,List.length_map,List.length_nil] at e2
  exact h.1.1.1.2 e2
 have ht:Xv YH (QJ t ++ QT t) 0=true:=by
  obtain ⟨a,l,e⟩:=List.exists_cons_of_ne_nil hne
  rw [e]
  simp [Xv,Qj1]
 rw [Qf,if_pos h,Y0,if_pos VK]
 show Xh YH _ (0+1)=_
 rw [Uc,ht]
 rfl
theorem QoE {t:Tx} (h:Qh t=true):Q4 YH t 0=t.rds:=by
 rw [Q4,UO VK h,List.filter_eq_self]
 intro x _
 simp [QcB,Qj1]
theorem QiZ {t:Tx} (h:Qh t=true):Qr YH t 0=t.wrs:=by
 rw [Qr,Vd VK h,List.filter_eq_self]
 intro x _
 simp [Qbg,Qj1]
def YE (t:Tx) (A B:Option Addr) (ca cb:Nat):Q2:=⟨1,t,A,B,ca,cb,0,0,0,0,false⟩
theorem KG {t:Tx} {A B:Option Addr} {ca cb:Nat} (h:Qh t=true):ZX (YE t A B ca cb)=true:=by
 simp [ZX,YE,XP,Us,h,Qd9]
structure Qfa (n:Nat) (m:Qk):Prop where
 ok:Zd YH 0 n m
 q:m.q=⟨0,n,[]⟩
 st:m.st=[]
 vo:m.vo=[]
theorem QoF:Qfa 0 (YP 0):=⟨Qdu VK (by decide) (by decide),rfl,rfl,rfl⟩
def Ja (m:Qk) (n:Nat) (t:Tx):Qk :=
 let m1:Qk:={ m with q:=⟨0,n+1,[]⟩,wt:=Zc (Qs m.wt (Qd t) ⟨t,[0],[]⟩) (Qd t),dc:=Qs m.dc (Qd t) (Yj m.s t.rds,n+1) }
 if Yj m.s t.rds && !t.wrs.isEmpty then Zq m1 (n+1) t.wrs else m1
theorem QcH (m:Qk) (final:Nat) (ws:List Wr):(Zq m final ws).q=m.q/\(Zq m final ws).st=m.st/\(Zq m final ws).vo=m.vo/\(Zq m final ws).dc=m.dc/\(Zq m final ws).wt=m.wt:=by
 unfold Zq
 simp only
 split <;> exact ⟨rfl,rfl,rfl,rfl,rfl⟩
theorem Qir {n:Nat} {m:Qk} (h:Qfa n m) {t:Tx} {A B:Option Addr} {ca cb:Nat} (ht:Qh t=true) (hn:n<YF) (hd:Qe m.dc (Qd t)=none) :
  Q5 YH 0 m (YE t A B ca cb)=Ja m n t/\Zs YH 0 m (YE t A B ca cb)=[⟨4, -1,Qd t,n+1,Yj m.s t.rds⟩]:=by
 have hg:=Qn7 ht
 have hw:Qe m.wt (Qd t)=none:=by
  cases e:Qe m.wt (Qd t) with
  | none=>rfl
  | some v =>
   have:=(h.ok.ids (Qd t)).1 (by rw [e];rfl)
   rw [h.q] at this
   cases this
 have hid:QbM (Qd t)=true:=(YR ht).1
 have hK:Ys m.q (Qd t) [0]=0:=by
  rw [Ys,h.q,hid]
  have h1:Yy (⟨0,n,[]⟩:QD).g [0]=true:=by show Yy 0 [0]=true;decide
  have h2:Zn ⟨0,n,[]⟩ (Qd t)=false:=rfl
  rw [h1,h2]
  have h3:¬ YF<=n:=by omega
  simp [h3]
 have hW:Ye YH 0 m t=4:=by
  rw [Ye,hg,hd,hw,hK]
  rfl
 have hb:QG m.q (Qd t) [0]=⟨0,n+1,[⟨Qd t,[0],n+1,[],true⟩]⟩:=by
  rw [QG,if_pos hK,h.q]
  simp [Ks,Je]
 have hB:Zl YH 0 m t = { m with q:=⟨0,n+1,[⟨Qd t,[0],n+1,[],true⟩]⟩,wt:=Qs m.wt (Qd t) ⟨t,[0],[]⟩,st:=[],vo:=[] }:=by
  rw [Zl,if_pos hW,Qe0,hg,hb,h.st,h.vo]
  rfl
 have hO:Z6 YH 0 m t=[]:=by
  rw [Z6,hW]
  simp only [hg,hb]
  rfl
 have hf:=KG (A:=A) (B:=B) (ca:=ca) (cb:=cb) ht
 have hA:Zr YH 0 m (YE t A B ca cb) = { m with q:=⟨0,n+1,[⟨Qd t,[0],n+1,[],true⟩]⟩,wt:=Qs m.wt (Qd t) ⟨t,[0],[]⟩,st:=[],vo:=[] }:=by
  show (if (1:Int)=1 then _ else _)=_
  rw [if_pos rfl];exact hB
 have hP:Yt YH 0 m (YE t A B ca cb)=[]:=by
  show (if (1:Int)=1 then _ else _)=_
  rw [if_pos rfl];exact hO
 obtain ⟨y,hy⟩:∃ y,Yj m.s t.rds=y:=⟨_,rfl⟩
 have hturn:ZZ YH 0 { m with q:=⟨0,n+1,[⟨Qd t,[0],n+1,[],true⟩]⟩,wt:=Qs m.wt (Qd t) ⟨t,[0],[]⟩,st:=[],vo:=[] }=(true,Ja m n t,[⟨4, -1,Qd t,n+1,y⟩]):=by
  have hnx:Z2 ⟨0,n+1,[⟨Qd t,[0],n+1,[],true⟩]⟩=some (Qd t,n+1):=rfl
  have hwt:ZD { m with q:=⟨0,n+1,[⟨Qd t,[0],n+1,[],true⟩]⟩,wt:=Qs m.wt (Qd t) ⟨t,[0],[]⟩,st:=[],vo:=[] } (Qd t)=⟨t,[0],[]⟩:=by
   show (Qe (Qs m.wt (Qd t) _) (Qd t)).getD Qg7=_
   rw [Qw,if_pos rfl];rfl
  have hov:QF YH 0 { m with q:=⟨0,n+1,[⟨Qd t,[0],n+1,[],true⟩]⟩,wt:=Qs m.wt (Qd t) ⟨t,[0],[]⟩,st:=[],vo:=[] } ⟨t,[0],[]⟩=[(0,y)]:=by
   show (if QU [] 0 then _ else ZS [0] [] 0 (Yj m.s (Q4 YH t 0)))=_
   rw [QoE ht,hy]
   rfl
  have hvo:YW YH 0 { m with q:=⟨0,n+1,[⟨Qd t,[0],n+1,[],true⟩]⟩,wt:=Qs m.wt (Qd t) ⟨t,[0],[]⟩,st:=[],vo:=[] } (Qd t) ⟨t,[0],[]⟩=[]:=by
   show (if QU [] 0 then [] else Zb 0 [0] 3 (Qd t) 0 _)=_
   rfl
  have hk:Yd 1 [((0:Int),y)]=true:=by simp [Yd]
  have hyy:Zk 1 [((0:Int),y)]=y:=by cases y <;> rfl
  unfold ZZ
  simp only [hnx,hwt,hov,hvo,List.length_singleton]
  rw [if_pos hk]
  simp only [hyy,QiZ ht,List.nil_append]
  unfold Ja
  simp only [hy]
  have e1:ZY { m with q:=⟨0,n+1,[⟨Qd t,[0],n+1,[],true⟩]⟩,wt:=Qs m.wt (Qd t) ⟨t,[0],[]⟩,st:=[],vo:=[] } (Qd t) y (n+1) = { m with q:=⟨0,n+1,[]⟩,wt:=Zc (Qs m.wt (Qd t) ⟨t,[0],[]⟩) (Qd t),dc:=Qs m.dc (Qd t) (y,n+1) }:=by
   show Qk.mk _ _ _ _ _ _ _=Qk.mk _ _ _ _ _ _ _
   rw [h.st,h.vo]
   rfl
  rw [e1]
 have hq2:(Ja m n t).q=⟨0,n+1,[]⟩:=by
  unfold Ja
  simp only
  split
  ·exact (QcH _ _ _).1
  ·rfl
 have hadv:ZU YH 0 2 { m with q:=⟨0,n+1,[⟨Qd t,[0],n+1,[],true⟩]⟩,wt:=Qs m.wt (Qd t) ⟨t,[0],[]⟩,st:=[],vo:=[] }=(Ja m n t,[⟨4, -1,Qd t,n+1,y⟩]):=by
  have h2:ZZ YH 0 (Ja m n t)=(false,Ja m n t,[]):=by
   unfold ZZ
   rw [hq2]
   rfl
  have h3:ZU YH 0 1 (Ja m n t)=(Ja m n t,[]):=by
   unfold ZU
   simp only [h2]
   rfl
  unfold ZU
  simp only [hturn,h3]
  rfl
 constructor
 ·rw [Q5,if_pos hf,hA]
  show (ZU YH 0 2 _).1=_
  rw [hadv]
 ·rw [Zs,if_pos hf,hA,hP,List.nil_append]
  show (ZU YH 0 2 _).2=_
  rw [hadv,hy]
theorem QfU {n:Nat} {k:ByteArray}:∀ (l:List Wr) {m:KV},Zg m->(∀ x ∈ l,x.key ≠ k)->getK (Zx n m l) k=getK m k
 | [],_,_,_=>rfl
 | x :: l,m,h,hk=>by
  have h2:getK (Zx n (JU n m x) l) k=getK (JU n m x) k:=QfU l (J9 h _ _) (fun y hy=>hk y (by simp [hy]))
  rw [show Zx n m (x :: l)=Zx n (JU n m x) l from rfl,h2,JU,KU h,if_neg (fun e=>hk x (by simp) e.symm)]
theorem Qhz {n:Nat}:∀ (l:List Wr) {m:KV},Zg m->(l.map Wr.key).Pairwise (fun a b=>Qy a b=true)->∀ x ∈ l,∃ r,getK (Zx n m l) x.key=⟨n,x.val⟩ :: r
 | [],m,_,_,x,hx=>by cases hx
 | y :: l,m,hm,hp,x,hx=>by
  have hp':=hp
  simp only [List.map_cons,List.pairwise_cons] at hp'
  have hstep:Zx n m (y :: l)=Zx n (JU n m y) l:=rfl
  rw [hstep]
  have hr:Zg (JU n m y):=J9 hm _ _
  rcases List.mem_cons.1 hx with rfl | hx
  ·have hno:∀ z ∈ l,z.key ≠ x.key:=fun z hz e=>by
    have:=hp'.1 z.key (List.mem_map_of_mem hz)
    rw [e,VU] at this
    cases this
   rw [QfU l hr hno]
   exact ⟨_,by rw [JU,KU hm,if_pos rfl]⟩
  ·exact Qhz l hr hp'.2 x hx
theorem Qi0 {v:JQ} (h:Ze v=true) (hk:v.kind=0):v=Qjc:=by
 rw [Ze,if_pos hk] at h
 simp only [Bool.and_eq_true,decide_eq_true_eq] at h
 obtain ⟨k,b,t⟩:=v
 obtain ⟨h1,h2⟩:=h
 simp only at hk h1 h2
 subst hk h1 h2
 rfl
theorem Qpm {n:Nat} {m:Qk} (h:Qfa n m) {t:Tx} (ht:Qh t=true) (hv:Yj m.s t.rds=true) {x:Wr} (hx:x ∈ t.wrs):(KN (Ja m n t).s x.key (Ja m n t).s.last).val=x.val:=by
 have hne:t.wrs.isEmpty=false:=by
  cases e:t.wrs with
  | nil=>rw [e] at hx;cases hx
  | cons=>rfl
 have hok:=h.ok.s
 have hfv:Ze x.val=true:=List.all_eq_true.1 (YR ht).2.2.2 x hx
 obtain ⟨r,hr⟩:=Qhz (n:=m.s.last+1) t.wrs hok.rises (Qht (YR ht).2.2.1).1 x hx
 have hwo:Yv t.wrs=true:=by
  have:=J4 (c:=YH) (g:=0) ht
  rwa [QiZ ht] at this
 have ha:QH m.s (m.s.last+1) t.wrs=⟨Zx (m.s.last+1) m.s.ks t.wrs,m.s.last+1,m.s.low⟩:=by
  rw [QH,if_neg (by omega),if_pos hwo]
 have hlow:=hok.low
 have hs1:Z3 (getK (Zx (m.s.last+1) m.s.ks t.wrs) x.key) (m.s.last+1)=⟨m.s.last+1,x.val⟩:=by
  rw [hr];exact Js (Nat.le_refl _)
 have hris:Zg (Zx (m.s.last+1) m.s.ks t.wrs):=QcN _ hok.rises
 unfold Ja
 simp only [hv,hne,Bool.not_false,Bool.and_true,if_true]
 unfold Zq
 simp only [ha]
 split
 ·rename_i hb
  have hco:Xy ⟨Zx (m.s.last+1) m.s.ks t.wrs,m.s.last+1,m.s.low⟩ (m.s.last+1-8)=true:=by
   unfold Xy
   simp only [Bool.and_eq_true,decide_eq_true_eq]
   omega
  simp only [Zv,hco,if_true]
  rw [KN,if_neg (by simp only;omega)]
  simp only
  rw [QkK hris]
  obtain ⟨h1,h2⟩:=QkJ (getK (Zx (m.s.last+1) m.s.ks t.wrs) x.key) (low:=m.s.last+1-8) (n:=m.s.last+1) (by omega)
  rw [hs1] at h1 h2
  by_cases hk:x.val.kind=0
  ·have h3:Ze (Z3 (Zp (getK (Zx (m.s.last+1) m.s.ks t.wrs) x.key) (m.s.last+1-8)) (m.s.last+1)).val=true:=by
    rcases Qj0 (Zp (getK (Zx (m.s.last+1) m.s.ks t.wrs) x.key) (m.s.last+1-8)) (m.s.last+1) with e | e
    ·rw [e];rfl
    ·have hs:=Vy hok (m.s.last+1) t.wrs
     rw [ha] at hs
     exact (hs.getK x.key).2.2.1 _ (Qa9 _ e)
   rw [Qi0 h3 (h1.trans hk),Qi0 hfv hk]
  ·rw [h2 hk]
 ·rw [KN,if_neg (by simp only;omega)]
  simp only
  rw [hs1]
end Go.Proofs.YtcldpmkhpmlcbaaGreatDoor
