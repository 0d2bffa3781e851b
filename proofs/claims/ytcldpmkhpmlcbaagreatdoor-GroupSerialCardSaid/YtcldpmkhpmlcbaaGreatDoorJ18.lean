/- part -/
import Derived.Test.YtcldpmkhpmlcbaaGreatDoorJ17
import Derived.Test.YtcldpmkhpmlcbaaGreatDoorJ14
import Derived.Test.YtcldpmkhpmlcbaaGreatDoorJ13
set_option linter.unusedVariables false
set_option linter.unusedSimpArgs false
namespace Go.Proofs.YtcldpmkhpmlcbaaGreatDoor
open Go.RowKit Go.Shelf Go.Maps
def QcE (w:World) (B p:Nat) (c:Ql) (g:Int) (n:Nat) (lab:Nat->QL) (x:Qk) (os:List Qv) (t:Tx) (e:Ending) (w':World):Prop :=
 e = .returned (.tuple #[])/\Qao w w' B p c g (n+1) lab (Zl c g x t) (os ++ Z6 c g x t)
structure Qpn (w W wx:World) (t:Tx) (At Bt:Option Addr) (ca cb:Nat) (gs:List Int) (A1:Option Addr) (d:Bool × Nat) (bd:Nat):Prop where
 bel:Below w.heap.size w wx
 belW:Below W.heap.size W wx
 box:wx.heap[w.heap.size]? = some (.cells #[.int .i64 t.ses,.int .i64 t.seq,.slice At t.rds.length ca,.slice Bt t.wrs.length cb] 38 (0,0))
 gr:QV wx A1 gs
 fr:∀ a,A1=some a->w.heap.size<a.block
 lt:∀ a,A1=some a->0<gs.length->a.block<wx.heap.size
 dec:wx.heap[bd]? = some (.cells #[.bool d.1,.int .u64 (d.2:Int)] 112 (0,0))
 db:w.heap.size<bd
theorem Qly {w:World} {b:Nat} {t:Tx} {At Bt:Option Addr} {ca cb:Nat} (h:w.heap[b]? = some (.cells #[.int .i64 t.ses,.int .i64 t.seq,.slice At t.rds.length ca,.slice Bt t.wrs.length cb] 38 (0,0))) :
  w.cell? ⟨b,0,none⟩=some (.int .i64 t.ses)/\w.cell? ⟨b,1,none⟩=some (.int .i64 t.seq)/\w.cell? ⟨b,2,none⟩=some (.slice At t.rds.length ca)/\w.cell? ⟨b,3,none⟩=some (.slice Bt t.wrs.length cb):=by
 refine ⟨?_,?_,?_,?_⟩ <;> (rw [cell_of_row w b _ _ _ _ h];rfl)
theorem K2 {w5 w15:World} {o:Obj} {ov v:Value} {b j:Nat} (hg:(w5.alloc o).grownBy w15 ov.ownBlock) (hc:w5.cell? ⟨b,j,none⟩=some v) (hb:∀ q,ov.ownBlock=some q->q ≠ b):w15.cell? ⟨b,j,none⟩=some v :=
 (Qg.of_grown (O:=fun q=>ov.ownBlock=some q) hg (fun q e=>e)).cell (keep (Qc _ _) hc) (fun e=>hb _ e rfl)
theorem Kj {w15:World} {v u:Value} {b j p:Nat} (hc:w15.cell? ⟨b,j,none⟩=some v) (hb:b ≠ p):(w15.setCell ⟨p,11,none⟩ u).cell? ⟨b,j,none⟩=some v:=(QQ w15 p 11 u).cell hc hb
def YS (o:Qv):Obj:=.cells #[.int .i64 o.kind,.int .i64 o.dst,.int .i64 o.id.ses,.int .i64 o.id.seq,.int .u64 (o.stamp:Int),.bool o.yes] 43
theorem Qm3 (w5:World) (o:Qv):∀ j u,(X7 o)[j]? = some u->(w5.alloc (YS o)).cell? ((⟨w5.heap.size,0,none⟩:Addr).add j)=some u:=World.news_of_block (heap_alloc_new w5 (YS o))
structure Qnz (w5:World) (B p:Nat) (lab:Nat->QL) (ov:Value) (os:List Qv) (o:Qv):Prop where
 own:(w5.alloc (YS o)).ownsRow B 43 6 ov os.length (ZV os)
 news:∀ j u,(X7 o)[j]? = some u->(w5.alloc (YS o)).cell? ((⟨w5.heap.size,0,none⟩:Addr).add j)=some u
 hB:B<=(w5.alloc (YS o)).heap.size
 k11:w5.cell? ⟨p,11,none⟩=some ov
 k11b:∀ o,(w5.alloc o).cell? ⟨p,11,none⟩=some ov
 fz:∀ w15,(w5.alloc (YS o)).grownBy w15 ov.ownBlock->w15.cell? ⟨p,11,none⟩=some ov/\w15.frozen? ⟨p,11,none⟩=false
 ne:∀ q,ov.ownBlock=some q->lab q = .out
theorem Qo.pushW {w5:World} {B p:Nat} {c:Ql} {g:Int} {lab:Nat->QL} {x:Qk} {E:Q9} {ov:Value} {os:List Qv} (h:Qo w5 B p c g lab x E ov) (hr:Q8 w5 B lab ov os) (o:Qv):Qnz w5 B p lab ov os o:=by
 have k11:w5.cell? ⟨p,11,none⟩=some ov:=h.cs.2.2.2.2.2.2.2.2.2.2.2
 refine ⟨Qi hr.1 (Qc w5 (YS o)),Qm3 w5 o,Nat.le_trans h.hB (by simp),k11,fun o=>keep (Qc w5 o) k11,fun w15 hg=>?_,hr.2⟩
 have ho:Qg (fun q=>ov.ownBlock=some q) _ w15:=Qg.of_grown hg (fun q e=>e)
 have hbp:=ho.obj (h.later (Qc w5 (YS o))).blk (fun e=>by
  have:=hr.2 _ e
  rw [h.lm] at this
  cases this)
 exact ⟨by rw [cell_of_row w15 _ _ _ _ _ hbp];rfl,frozen_of_row w15 p 11 _ _ hbp⟩
theorem Qo.pushed {w5 w15:World} {B p:Nat} {c:Ql} {g:Int} {lab:Nat->QL} {x:Qk} {E:Q9} {ov ov':Value} {os:List Qv} {o:Qv} (h:Qo w5 B p c g lab x E ov) (hr:Q8 w5 B lab ov os) (hg:(w5.alloc (YS o)).grownBy w15 ov.ownBlock) (hO:w15.ownsRow B 43 6 ov' (os.length+1) (ZV os ++ X7 o)) (hv:ov'.ownBlock=ov.ownBlock \/ ov'.ownBlock=some (w5.alloc (YS o)).heap.size) :
  ∃ lab',Qo (w15.setCell ⟨p,11,none⟩ ov') B p c g lab' x E ov'/\Q8 (w15.setCell ⟨p,11,none⟩ ov') B lab' ov' (os ++ [o])/\QE w5 (w15.setCell ⟨p,11,none⟩ ov') lab lab':=by
 obtain ⟨h1,h2,h3,h4⟩:=(h.later (Qc w5 (YS o))).pushOut hr.2 hg hO hv
 refine ⟨_,h1,⟨?_,h3⟩,(QE.below (Qc w5 (YS o))).trans (QE.tell (K1 lab _ _ _) h4)⟩
 rw [KE,List.length_append]
 exact h2
set_option maxRecDepth 100000 in
set_option maxHeartbeats 4000000 in
theorem QaG {w:World} {B p n:Nat} {c:Ql} {g:Int} {lab:Nat->QL} {x:Qk} {E:Q9} {ov:Value} {os:List Qv} (h:ZW w B p c g n lab x E ov os) (t:Tx) (At Bt:Option Addr) (ca cb:Nat) (ht:QY w t At Bt) (oA:J3 B t.rds.length (fun k=>lab k = .one (Qd t)) At) (oB:J3 B t.wrs.length (fun k=>lab k = .one (Qd t)) Bt) (hf:Qh t=true) (hn:n<=2000) (hos:os.length<=899900)
  (hno:(Qf c t).contains g=false \/ (Qe x.dc (Qd t)).isSome=true \/ (Qe x.wt (Qd t)).isSome=true) :
  Calls Tryz.prog 41 #[.pointer (some ⟨p,0,none⟩),XA t At Bt ca cb] w (QcE w B p c g n lab x os t):=by
 unfold XA
 obtain ⟨W,eW,HB,hszW,hr0⟩:=Uy w #[.int .i64 t.ses,.int .i64 t.seq,.slice At t.rds.length ca,.slice Bt t.wrs.length cb] 38
 have HG:=Lib.hid (h.later HB)
 have hHt:=Lib.hid (ht.later HB)
 have hid:=(YR hf).1
 have hok:Y6 (Qd t):=Ki hid
 have hlt0:Hid (∀ k,lab k ≠ .no->k<w.heap.size):=h.lt
 have hstep:Hid (∀ wz,Below W.heap.size W wz->QE w wz lab lab):=fun wz hb=>QE.below (Qa HB hb)
 obtain ⟨b0,b1,b2,b3⟩:=Qly hr0
 obtain ⟨c0,c1,c2,c3,c4,c5,c6,c7,c8,c9,c10,c11⟩:=HG.out.m.cs
 clear h ht
 obtain ⟨gs,hgs⟩:∃ gs,Qf c t=gs:=⟨_,rfl⟩
 obtain ⟨dB,hdB⟩:∃ b,(Qe x.dc (Qd t)).isSome=b:=⟨_,rfl⟩
 obtain ⟨dd,hdd⟩:∃ d,Kc x (Qd t)=d:=⟨_,rfl⟩
 have hG1:Hid (∀ wz,Below W.heap.size W wz->Calls Tryz.prog 84 #[.agg #[.slice E.A c.reps.length E.ca,.slice E.A' c.bnds.length E.cb],.agg #[.int .i64 t.ses,.int .i64 t.seq,.slice At t.rds.length ca,.slice Bt t.wrs.length cb]] wz (Qai wz gs)):=fun wz hb=>by
  have:=QbC c t E.A E.A' At Bt E.ca E.cb ca cb wz (HG.out.m.cfg.later hb) (hHt.out.later hb) ((HG.out.later hb).tb.t)
  rw [hgs] at this
  exact this
 have LD:Hid (∀ wz,Below W.heap.size W wz->(Instr.lookup 103 (.map (some E.md)) (.agg #[.int .i64 t.ses,.int .i64 t.seq]) true).run Tryz.prog wz = .ok (.tuple #[.agg #[.bool dd.1,.int .u64 (dd.2:Int)],.bool dB]) wz):=fun wz hb=>by
  have:=HG.out.m.lookD hok hb
  rw [hdB,hdd] at this
  exact this
 have hg4:Hid (gs.length<=4):=by
  show _<=_
  have h1:=(XO (t:=t) HG.out.k.cf).2.2
  have h2:=ZI HG.out.k.cf
  rw [hgs] at h1
  omega
 go_enter Tryz.func41,Tryz.ntmps41
 go_wp2
 clear eW
 have S1:Hid (∀ wz,Below W.heap.size W wz->wz.cell? ⟨p,0,none⟩=some (.slice E.A c.reps.length E.ca)/\wz.cell? ⟨p,1,none⟩=some (.slice E.A' c.bnds.length E.cb)/\wz.cell? ⟨w.heap.size,0,none⟩=some (.int .i64 t.ses)/\wz.cell? ⟨w.heap.size,1,none⟩=some (.int .i64 t.seq)/\wz.cell? ⟨w.heap.size,2,none⟩=some (.slice At t.rds.length ca)/\wz.cell? ⟨w.heap.size,3,none⟩=some (.slice Bt t.wrs.length cb)):=fun wz hb=>⟨keep hb c0,keep hb c1,keep hb b0,keep hb b1,keep hb b2,keep hb b3⟩
 go_region_held3 (fun w'=>w'.cell? ⟨p,0,none⟩=some (.slice E.A c.reps.length E.ca)/\w'.cell? ⟨p,1,none⟩=some (.slice E.A' c.bnds.length E.cb)/\w'.cell? ⟨w.heap.size,0,none⟩=some (.int .i64 t.ses)/\w'.cell? ⟨w.heap.size,1,none⟩=some (.int .i64 t.seq)/\w'.cell? ⟨w.heap.size,2,none⟩=some (.slice At t.rds.length ca)/\w'.cell? ⟨w.heap.size,3,none⟩=some (.slice Bt t.wrs.length cb))
  (first | exact S1.out _ (Qb (Below.refl _ _)) | exact S1.out _ hb1)
  ((go_at_call 84;(with_reducible refine (hG1.out _ (Qb (Below.refl _ _))).mono ?_);rintro e w1 ⟨A1,cap1,rfl,hI1,hbb,hfr1⟩;have hb1:Below W.heap.size W w1:=Qa (Qb (Below.refl W.heap.size W)) hbb))
 have hsame:Hid (∀ wz,Below W.heap.size W wz->Ye c g x t=0 \/ Ye c g x t=3->QcE w B p c g n lab x os t (.returned (.tuple #[])) wz):=fun wz hb e=>by
  have h1:Zl c g x t=x:=by rw [Zl,if_neg (by omega)]
  have h2:Z6 c g x t=[]:=by rw [Z6];rcases e with e | e <;> rw [e] <;> rfl
  refine ⟨rfl,?_⟩
  rw [h1,h2,List.append_nil]
  exact ⟨lab,E,ov,(HG.out.later hb).more (Nat.le_succ _),hstep.out _ hb⟩
 have d2:=keep hb1 c2
 obtain ⟨mB,hmB⟩:∃ b,KQ gs g=b:=⟨_,rfl⟩
 have hC:Hid (Calls Tryz.prog 85 #[.slice A1 gs.length cap1,.int .i64 g] w1 fun e w'=>e = .returned (.bool mB)/\w1=w'):=by
  have:=YD gs A1 cap1 g w1 hI1 (by have:=hg4.out;omega)
  rw [hmB] at this
  exact this
 cases mB
 case false =>
  go_wp2_with (go_at_call 85;refine hC.out.mono ?_;rintro e w2 ⟨rfl,rfl⟩)
  go_end0
  exact hsame.out _ hb1 (.inl (by rw [Ye,hgs,show gs.contains g=false from hmB];rfl))
 have hme:Hid (gs.contains g=true):=hmB
 clear hmB
 go_wp2_with (go_at_call 85;refine hC.out.mono ?_;rintro e w2 ⟨rfl,rfl⟩)
 have S3:Hid (∀ wz,Below w1.heap.size w1 wz->wz.cell? ⟨p,6,none⟩=some (.map (some E.md))/\wz.cell? ⟨w.heap.size,0,none⟩=some (.int .i64 t.ses)/\wz.cell? ⟨w.heap.size,1,none⟩=some (.int .i64 t.seq)):=fun wz hb=>⟨keep (Qa hb1 hb) c6,keep (Qa hb1 hb) b0,keep (Qa hb1 hb) b1⟩
 have l1:=LD.out w1.drew (Qa hb1 (Qb (Below.refl _ _)))
 have l2:=LD.out _ (Qa hb1 (Qb (Qc w1 (.cells #[.bool false,.int .u64 0] 112))))
 go_cut [5,6] (fun s u wx=>s = .pointer (some ⟨w1.heap.size,0,none⟩)/\u = .bool dB/\Below w1.heap.size w1 wx/\wx.heap[w1.heap.size]? = some (.cells #[.bool dd.1,.int .u64 (dd.2:Int)] 112 (0,0)))
 case first =>
  go_region_held3 (fun w'=>w'.cell? ⟨p,6,none⟩=some (.map (some E.md))/\w'.cell? ⟨w.heap.size,0,none⟩=some (.int .i64 t.ses)/\w'.cell? ⟨w.heap.size,1,none⟩=some (.int .i64 t.seq))
   (first | exact S3.out _ (Qb (Below.refl _ _)) | exact S3.out _ (Qb (Qc _ _)))
   (fail)
  all_goals
   go_wp2
   go_meet
   exact ⟨rfl,rfl,Qb (Qc _ _),heap_alloc_new w1 _⟩
 case rest =>
  obtain ⟨rfl,rfl,hbc,hdc⟩:=hcut
  obtain ⟨w2,rfl⟩:∃ wq:World,wq=wc:=⟨_,rfl⟩
  clear l1 l2
  obtain ⟨bd,hbd⟩:∃ bd,w1.heap.size=bd:=⟨_,rfl⟩
  have hbdw:Hid (w.heap.size<bd):=by
   have:=hb1.size
   show _<_
   omega
  have hb2:Below W.heap.size W w2:=Qa hb1 hbc
  have hI2:QV w2 A1 gs:=QI.later hI1 hbc
  rw [hbd] at hdc ⊢
  cases dB
  case true =>
   have HE:Hid (Zl c g x t=x/\Z6 c g x t=[⟨4, -1,Qd t,dd.2,dd.1⟩]):=by
    have hW:Ye c g x t=1:=by rw [Ye,hgs,hme.out,hdB];rfl
    show _/\_
    refine ⟨by rw [Zl,if_neg (by omega)],?_⟩
    rw [Z6,hW,hdd];rfl
   obtain ⟨y,hy⟩:∃ y,dd.1=y:=⟨_,rfl⟩
   obtain ⟨sN,hsN⟩:∃ sN,dd.2=sN:=⟨_,rfl⟩
   rw [hy,hsN] at hdc HE
   obtain ⟨s0,hs0⟩:∃ s0,t.ses=s0:=⟨_,rfl⟩
   obtain ⟨s1,hs1⟩:∃ s1,t.seq=s1:=⟨_,rfl⟩
   have hidT:Qd t=⟨s0,s1⟩:=by rw [<- hs0, <- hs1];rfl
   rw [hidT] at HE
   have x0:=keep hb2 b0
   have x1:=keep hb2 b1
   rw [hs0] at x0
   rw [hs1] at x1
   obtain ⟨z0,z1⟩:w2.cell? ⟨bd,0,none⟩=some (.bool y)/\w2.cell? ⟨bd,1,none⟩=some (.int .u64 (sN:Int)):=by
    refine ⟨?_,?_⟩ <;> (rw [cell_of_row w2 _ _ _ _ _ hdc];rfl)
   have hG2:=Lib.hid (HG.out.later hb2)
   obtain ⟨hown,hnews,hBA,k11,k11b,hfz,hne⟩:=hG2.out.m.pushW hG2.out.o ⟨4, -1,⟨s0,s1⟩,sN,y⟩
   replace hfz:=Lib.hid hfz
   have hnb:Hid (∀ q,ov.ownBlock=some q->q ≠ w.heap.size/\q ≠ bd):=fun q e=>by
    have h1:=hlt0.out q (by rw [hne q e];decide)
    have h2:=hbdw.out
    omega
   have hpb:w.heap.size ≠ p/\bd ≠ p:=by
    have h1:=hlt0.out p (by rw [hG2.out.m.lm];decide)
    have h2:=hbdw.out
    omega
   obtain ⟨i0,hi0,hz0,hz1,hz2⟩:=info_parts Qbk
   unfold YS at hown hnews hBA hfz
   go_wp2
   clear hs0 hs1
   go_region_law (first
     | (refine Yr rfl _ _ 31 rfl B 43 i0 _ 6 48 Tryz.underlying31 hi0 hz0 hz1 hz2 rfl (by decide) ov os.length (ZV os) rfl (Qi hown (Qb (Below.refl _ _))) ⟨w2.heap.size,0,none⟩ 1 1 (X7 ⟨4, -1,⟨s0,s1⟩,sN,y⟩) rfl rfl hnews VI (QA (by omega)) (by omega) hBA ?_;intro v15 w15 HO15 hg15 hv15;obtain ⟨A15,k15,rfl⟩:=ZT HO15;have hg16:(w2.alloc (.cells #[.int .i64 4,.int .i64 (-1),.int .i64 s0,.int .i64 s1,.int .u64 (sN:Int),.bool y] 43)).grownBy w15 ov.ownBlock:=⟨hg15.os,hg15.tape,hg15.output,hg15.size,hg15.block⟩;obtain ⟨hc15,hf15⟩:=hfz.out w15 hg16;have hS15:w15.cell? ⟨w.heap.size,0,none⟩=some (.int .i64 s0)/\w15.cell? ⟨w.heap.size,1,none⟩=some (.int .i64 s1)/\w15.cell? ⟨bd,0,none⟩=some (.bool y)/\w15.cell? ⟨bd,1,none⟩=some (.int .u64 (sN:Int)):=⟨K2 hg16 x0 (fun q e=>(hnb.out q e).1),K2 hg16 x1 (fun q e=>(hnb.out q e).1),K2 hg16 z0 (fun q e=>(hnb.out q e).2),K2 hg16 z1 (fun q e=>(hnb.out q e).2)⟩;have hS16:=fun u=>(⟨Kj hS15.1 hpb.1,Kj hS15.2.1 hpb.1,Kj hS15.2.2.1 hpb.2,Kj hS15.2.2.2 hpb.2⟩:(w15.setCell ⟨p,11,none⟩ u).cell? ⟨w.heap.size,0,none⟩=some (.int .i64 s0)/\(w15.setCell ⟨p,11,none⟩ u).cell? ⟨w.heap.size,1,none⟩=some (.int .i64 s1)/\(w15.setCell ⟨p,11,none⟩ u).cell? ⟨bd,0,none⟩=some (.bool y)/\(w15.setCell ⟨p,11,none⟩ u).cell? ⟨bd,1,none⟩=some (.int .u64 (sN:Int)))))
   all_goals
    go_wp2
    go_end0
    obtain ⟨lab',h1,h2,h3⟩:=hG2.out.m.pushed hG2.out.o (o:=⟨4, -1,⟨s0,s1⟩,sN,y⟩) hg16 HO15 hv15
    refine ⟨rfl,?_⟩
    rw [HE.out.1,HE.out.2]
    have hbe:=(hstep.out _ hb2).trans h3
    exact ⟨lab',E,_,{ m:=h1,o:=h2,k:=(HG.out.more (Nat.le_succ n)).k,cn:=(HG.out.more (Nat.le_succ n)).cn,tb:=hG2.out.tb.out h3.out (fun k e=>HG.out.lb k e) },hbe⟩
  case false =>
   obtain ⟨wB,hwB⟩:∃ b,(Qe x.wt (Qd t)).isSome=b:=⟨_,rfl⟩
   obtain ⟨ptr,hptr⟩:∃ v,(if wB=true then Value.pointer (some ⟨E.pp (Qd t),0,none⟩) else .pointer none)=v:=⟨_,rfl⟩
   have lw:∀ nq,(Instr.lookup 102 (.map (some E.mw)) (.agg #[.int .i64 t.ses,.int .i64 t.seq]) false).run Tryz.prog (w2.drewN nq) = .ok ptr (w2.drewN nq):=fun nq=>by
    have:=HG.out.m.lookW hok (Qj hb2 nq)
    rw [hwB,hptr] at this
    exact this
   have d5:=keep hb2 c5
   have f0:=keep hb2 b0
   have f1:=keep hb2 b1
   have hqn:Hid (x.q.l.length<900000):=by
    have:=HG.out.k.cnt
    show _<_
    omega
   have hWb:Hid (Ye c g x t=if wB then 2 else if Ys x.q (Qd t) gs ≠ 0 then 3 else 4):=by
    show _=_
    rw [Ye,hgs,hme.out,hdB,hwB]
    rfl
   go_wp2
   go_quiet (fail)
   obtain ⟨w3,hw3⟩:∃ w3,w2.drewN nq=w3:=⟨_,rfl⟩
   have hb3:Below W.heap.size W w3:=by rw [<- hw3];exact Qj hb2 _
   have hI3:QV w3 A1 gs:=QI.later hI2 (by rw [<- hw3];exact Qj (Below.refl _ _) _)
   rw [hw3]
   clear hw3 lw d5 f0 f1
   cases wB
   case true =>
    simp only [if_true] at hptr
    subst hptr
    obtain ⟨v,hv⟩:=Option.isSome_iff_exists.1 hwB
    have hWOK:=HG.out.k.w _ v hv
    have hwo:ZD x (Qd t)=v:=by rw [ZD,hv];rfl
    have HE:Hid (Zl c g x t=x/\Z6 c g x t=YQ g x.q (Qd t) v):=by
     have hW:Ye c g x t=2:=by rw [hWb.out];rfl
     show _/\_
     refine ⟨by rw [Zl,if_neg (by omega)],?_⟩
     rw [Z6,hW,hwo];rfl
    have hG3:=Lib.hid (HG.out.later hb3)
    have hAg:Hid (Calls Tryz.prog 86 #[.pointer (some ⟨p,0,none⟩),.pointer (some ⟨E.pp (Qd t),0,none⟩)] w3 (UZ w3 B p c g lab x E (os ++ YQ g x.q (Qd t) v))):=by
     have h4:=hWOK.four HG.out.k.cf
     have h5:=HG.out.k.g4
     have h6:=HG.out.k.has (i:=Qd t)
     have:=QiS hG3.out.m hG3.out.o (v:=v) (by rw [hWOK.id];exact hv) h4 (by omega) (by rw [hWOK.id,h6,hwB]) hWOK.tal HG.out.k.g0 h5 hqn.out
     rw [hWOK.id] at this
     exact this
    clear hWOK hv hwo
    go_wp2_with (go_at_call 86;(with_reducible refine hAg.out.mono ?_);rintro e w4 ⟨rfl,hT4⟩;replace hT4:=Lib.hid hT4)
    go_end0
    obtain ⟨⟨lab4,ov4,hM4,hR4,hE4⟩,ho4⟩:=hT4.out
    refine ⟨rfl,?_⟩
    rw [HE.out.1,HE.out.2]
    exact ⟨lab4,E,ov4,{ m:=hM4,o:=hR4,k:=(HG.out.more (Nat.le_succ n)).k,cn:=(HG.out.more (Nat.le_succ n)).cn,tb:=hG3.out.tb.out ho4 (fun k e=>HG.out.lb k (by rcases e with e | e <;> (rw [e];decide))) },(hstep.out _ hb3).trans (QE.tell hE4 ho4)⟩
   case false =>
    exfalso
    rw [hgs,hdB,hwB,hme.out] at hno
    simp at hno
structure Kk (w wr:World) (bx B p:Nat) (c:Ql) (g:Int) (n:Nat) (lab:Nat->QL) (b off q:Nat) (gs:List Int) (t:Tx) (y:Qk) (os:List Qv) (lab':Nat->QL) (E':Q9) (ov':Value):Prop where
 m:Qo wr B p c g lab' y E' ov'
 o:Q8 wr B lab' ov' os
 st:QE w wr lab lab'
 cn:QcD (n+1) y E'
 pq:E'.pp (Qd t)=q
 lb:lab' b = .one (Qd t)
 lx:lab' bx = .no
 lxw:bx<wr.heap.size
 gr:QV wr (some ⟨b,off,none⟩) gs
 x0:wr.cell? ⟨bx,0,none⟩=some (.int .i64 t.ses)
 x1:wr.cell? ⟨bx,1,none⟩=some (.int .i64 t.seq)
 tb:Vh wr B
def ZK (w wr:World) (bx B p:Nat) (c:Ql) (g:Int) (n:Nat) (lab:Nat->QL) (b off q:Nat) (gs:List Int) (t:Tx) (y:Qk) (os:List Qv):Prop:=∃ lab' E' ov',Kk w wr bx B p c g n lab b off q gs t y os lab' E' ov'
section
variable {w wr w':World} {bx B p n:Nat} {c:Ql} {g:Int} {lab lab':Nat->QL} {b off q:Nat} {gs:List Int} {t:Tx} {y:Qk} {os:List Qv} {E':Q9} {ov':Value}
theorem Kk.later (h:Kk w wr bx B p c g n lab b off q gs t y os lab' E' ov') (hb:Below wr.heap.size wr w'):Kk w w' bx B p c g n lab b off q gs t y os lab' E' ov' :=
 { h with m:=h.m.later hb,o:=⟨Qi h.o.1 hb,h.o.2⟩,st:=h.st.trans (QE.below hb),lxw:=Nat.lt_of_lt_of_le h.lxw hb.size,gr:=QI.later h.gr hb,x0:=keep hb h.x0,x1:=keep hb h.x1,tb:=h.tb.out (O:=fun _=>False) (Qg.of_below hb) (fun _ e=>e.elim) }
theorem ZK.later (h:ZK w wr bx B p c g n lab b off q gs t y os) (hb:Below wr.heap.size wr w'):ZK w w' bx B p c g n lab b off q gs t y os:=by
 obtain ⟨lab',E',ov',h⟩:=h
 exact ⟨lab',E',ov',h.later hb⟩
theorem Kk.turn (h:Kk w wr bx B p c g n lab b off q gs t y os lab' E' ov') {O:Nat->Prop} {l:QL} (ho:Qg O wr w') (hO:∀ k,O k->lab' k=l) (hl:l ≠ .no) (hlo:l ≠ .out) (hb:¬ O b) {y':Qk} {E2:Q9} (hm:Qo w' B p c g (relab lab' wr w' l) y' E2 ov') (hc:QcD (n+1) y' E2) (hp:E2.pp (Qd t)=q) :
  Kk w w' bx B p c g n lab b off q gs t y' os (relab lab' wr w' l) E2 ov':=by
 have hxO:¬ O bx:=fun e=>hl ((hO _ e).symm.trans h.lx)
 have hlt:∀ k,lab' k ≠ .no->k<wr.heap.size:=fun k hk=>(h.m.lt k hk).2
 exact { m:=hm,o:=h.o.rest ho hO hlt hlo,st:=h.st.trans (QE.relab ho hO hl),cn:=hc,pq:=hp,lb:=by rw [Xr (hlt b (by rw [h.lb];intro z;cases z))];exact h.lb,lx:=by rw [Xr h.lxw];exact h.lx,lxw:=Nat.lt_of_lt_of_le h.lxw ho.size,gr:=J2 h.gr ho (fun a e=>by cases e;exact hb),x0:=ho.cell h.x0 hxO,x1:=ho.cell h.x1 hxO,tb:=h.tb.out ho (fun k e=>(h.m.lt k (by rw [hO k e];exact hl)).1) }
theorem Kk.bne (h:Kk w wr bx B p c g n lab b off q gs t y os lab' E' ov') {k:Nat} {l:QL} (e:lab' k=l) (hl:l ≠ .one (Qd t)):k ≠ b:=fun z=>hl (by rw [<- e,z];exact h.lb)
theorem Kk.xne (h:Kk w wr bx B p c g n lab b off q gs t y os lab' E' ov') {k:Nat} {l:QL} (e:lab' k=l) (hl:l ≠ .no):k ≠ bx:=fun z=>hl (by rw [<- e,z];exact h.lx)
theorem Kk.pne (h:Kk w wr bx B p c g n lab b off q gs t y os lab' E' ov') {k:Nat} {l:QL} (e:lab' k=l) (hl:l ≠ .m):k ≠ p:=fun z=>hl (by rw [<- e,z];exact h.m.lm)
theorem ZK.cs (h:ZK w wr bx B p c g n lab b off q gs t y os):∃ qp ms mv,wr.cell? ⟨p,3,none⟩=some (.pointer (some ⟨qp,0,none⟩))/\wr.cell? ⟨p,7,none⟩=some (.map (some ms))/\wr.cell? ⟨p,8,none⟩=some (.map (some mv)):=by
 obtain ⟨lab',E',ov',h⟩:=h
 obtain ⟨_,_,_,c3,_,_,_,c7,c8,_⟩:=h.m.cs
 exact ⟨_,_,_,c3,c7,c8⟩
theorem ZK.learn (h:ZK w wr bx B p c g n lab b off q gs t y os) (hq:Jc y.q) (hlen:y.q.l.length<900000) (hid:idB t.ses t.seq=true) {gk:Int} (hg:0<=gk/\gk<4) {s:Nat} (hs:s<18446744073709551616) {qp:Nat} (h3:wr.cell? ⟨p,3,none⟩=some (.pointer (some ⟨qp,0,none⟩))) :
  Calls Tryz.prog 89 #[.pointer (some ⟨qp,0,none⟩),.agg #[.int .i64 t.ses,.int .i64 t.seq],.int .i64 gk,.int .u64 (s:Int)] wr.drew fun e w'=>(∃ z:Int,e = .returned (.int .i64 z))/\ZK w w' bx B p c g n lab b off q gs t { y with q:=QZ y.q (Qd t) gk s } os/\(∀ b' j v,(b'=p \/ b'=bx)->wr.cell? ⟨b',j,none⟩=some v->w'.cell? ⟨b',j,none⟩=some v):=by
 obtain ⟨lab',E',ov',h⟩:=h
 obtain ⟨_,_,_,c3,_⟩:=h.m.cs
 rw [c3] at h3
 obtain rfl:E'.qp=qp:=by injection h3 with h3;injection h3 with h3;injection h3 with h3;injection h3
 have hd:=h.later (Qb (Below.refl wr.heap.size wr))
 refine (QiN hd.m.q hq (i:=Qd t) (g:=gk) (s:=s) (by omega) (by omega) hs hlen).mono ?_
 rintro e w2 ⟨rfl,hq2,ho2⟩
 refine ⟨⟨_,rfl⟩,⟨_,E',ov',hd.turn ho2 (l:=.q) (fun k e=>e) (by decide) (by decide) (fun e=>by rw [h.lb] at e;cases e) (hd.m.setQ ho2 hq2) { h.cn with nd:=by show _+(QZ _ _ _ _).l.length<=_;rw [(Qal _ _ _ _).2.1];exact h.cn.nd } h.pq⟩,fun b' j v hb' hv=>ho2.cell hv (fun e=>?_)⟩
 rcases hb' with rfl | rfl
 ·exact hd.pne (l:=.q) e (by decide) rfl
 ·exact hd.xne (l:=.q) e (by decide) rfl
theorem ZK.delS (h:ZK w wr bx B p c g n lab b off q gs t y os) (hid:idB t.ses t.seq=true) {gk:Int} (hg:0<=gk/\gk<4) {ms:Nat} (h7:wr.cell? ⟨p,7,none⟩=some (.map (some ms))) :
  ∃ w',(∀ ty,(Builtin.delete_ #[104,179] ty #[.map (some ms),.agg #[.int .i64 t.ses,.int .i64 t.seq,.int .i64 gk]]).run Tryz.prog wr.drew = .ok (.tuple #[]) w')/\ZK w w' bx B p c g n lab b off q gs t { y with st:=Zc y.st (Qd t,gk) } os/\(∀ b' j v,(b'=p \/ b'=bx)->wr.cell? ⟨b',j,none⟩=some v->w'.cell? ⟨b',j,none⟩=some v):=by
 obtain ⟨lab',E',ov',h⟩:=h
 obtain ⟨_,_,_,_,_,_,_,c7,_⟩:=h.m.cs
 rw [c7] at h7
 obtain rfl:E'.ms=ms:=by injection h7 with h7;injection h7 with h7;injection h7
 have hd:=h.later (Qb (Below.refl wr.heap.size wr))
 obtain ⟨w2,hrun,hm2,ht2⟩:=Za.del Jz hd.m.hs Tryz.underlying104 (Qd t,gk) ⟨Ki hid,by unfold Ui;simp only;omega⟩ 0
 have ho2:Qg (fun k=>k=E'.ms) wr.drew w2:=Qg.of_turned ht2
 have hl:∀ k,k=E'.ms->lab' k = .ms:=fun k e=>by rw [e];exact h.m.lms
 refine ⟨w2,fun ty=>hrun,⟨_,_,ov',hd.turn ho2 (l:=.ms) hl (by decide) (by decide) (fun e=>hd.bne (hl _ e) (by intro z;cases z) rfl) (hd.m.delSt ht2 hm2) { h.cn with } h.pq⟩,fun b' j v hb' hv=>ho2.cell hv (fun e=>?_)⟩
 rcases hb' with rfl | rfl
 ·exact hd.pne (hl _ e) (by decide) rfl
 ·exact hd.xne (hl _ e) (by decide) rfl
theorem ZK.delV (h:ZK w wr bx B p c g n lab b off q gs t y os) (hid:idB t.ses t.seq=true) {gk:Int} (hg:0<=gk/\gk<4) {mv:Nat} (h8:wr.cell? ⟨p,8,none⟩=some (.map (some mv))) :
  ∃ w',(∀ ty,(Builtin.delete_ #[105,179] ty #[.map (some mv),.agg #[.int .i64 t.ses,.int .i64 t.seq,.int .i64 gk]]).run Tryz.prog wr.drew = .ok (.tuple #[]) w')/\ZK w w' bx B p c g n lab b off q gs t { y with vo:=Zc y.vo (Qd t,gk) } os/\(∀ b' j v,(b'=p \/ b'=bx)->wr.cell? ⟨b',j,none⟩=some v->w'.cell? ⟨b',j,none⟩=some v):=by
 obtain ⟨lab',E',ov',h⟩:=h
 obtain ⟨_,_,_,_,_,_,_,_,c8,_⟩:=h.m.cs
 rw [c8] at h8
 obtain rfl:E'.mv=mv:=by injection h8 with h8;injection h8 with h8;injection h8
 have hd:=h.later (Qb (Below.refl wr.heap.size wr))
 obtain ⟨w2,hrun,hm2,ht2⟩:=Za.del Jz hd.m.hv Tryz.underlying105 (Qd t,gk) ⟨Ki hid,by unfold Ui;simp only;omega⟩ 0
 have ho2:Qg (fun k=>k=E'.mv) wr.drew w2:=Qg.of_turned ht2
 have hl:∀ k,k=E'.mv->lab' k = .mv:=fun k e=>by rw [e];exact h.m.lmv
 refine ⟨w2,fun ty=>hrun,⟨_,_,ov',hd.turn ho2 (l:=.mv) hl (by decide) (by decide) (fun e=>hd.bne (hl _ e) (by intro z;cases z) rfl) (hd.m.delVo ht2 hm2) { h.cn with } h.pq⟩,fun b' j v hb' hv=>ho2.cell hv (fun e=>?_)⟩
 rcases hb' with rfl | rfl
 ·exact hd.pne (hl _ e) (by decide) rfl
 ·exact hd.xne (hl _ e) (by decide) rfl
theorem ZK.xs (h:ZK w wr bx B p c g n lab b off q gs t y os):wr.cell? ⟨bx,0,none⟩=some (.int .i64 t.ses)/\wr.cell? ⟨bx,1,none⟩=some (.int .i64 t.seq)/\QV wr (some ⟨b,off,none⟩) gs:=by
 obtain ⟨lab',E',ov',h⟩:=h
 exact ⟨h.x0,h.x1,h.gr⟩
theorem ZK.lookS (h:ZK w wr bx B p c g n lab b off q gs t y os) (hid:idB t.ses t.seq=true) {gk:Int} (hg:0<=gk/\gk<4) {ms:Nat} (h7:wr.cell? ⟨p,7,none⟩=some (.map (some ms))) {wz:World} (hb:Below wr.heap.size wr wz) :
  (Instr.lookup 104 (.map (some ms)) (.agg #[.int .i64 t.ses,.int .i64 t.seq,.int .i64 gk]) true).run Tryz.prog wz = .ok (.tuple #[.int .u64 (((Qe y.st (Qd t,gk)).getD 0:Nat):Int),.bool (Qe y.st (Qd t,gk)).isSome]) wz:=by
 obtain ⟨lab',E',ov',h⟩:=h
 obtain ⟨_,_,_,_,_,_,_,c7,_⟩:=h.m.cs
 rw [c7] at h7
 obtain rfl:E'.ms=ms:=by injection h7 with h7;injection h7 with h7;injection h7
 exact h.m.lookS (i:=(Qd t,gk)) ⟨Ki hid,by unfold Ui;simp only;omega⟩ hb
theorem ZK.lookV (h:ZK w wr bx B p c g n lab b off q gs t y os) (hid:idB t.ses t.seq=true) {gk:Int} (hg:0<=gk/\gk<4) {mv:Nat} (h8:wr.cell? ⟨p,8,none⟩=some (.map (some mv))) {wz:World} (hb:Below wr.heap.size wr wz) :
  (Instr.lookup 105 (.map (some mv)) (.agg #[.int .i64 t.ses,.int .i64 t.seq,.int .i64 gk]) true).run Tryz.prog wz = .ok (.tuple #[.bool ((Qe y.vo (Qd t,gk)).getD false),.bool (Qe y.vo (Qd t,gk)).isSome]) wz:=by
 obtain ⟨lab',E',ov',h⟩:=h
 obtain ⟨_,_,_,_,_,_,_,_,c8,_⟩:=h.m.cs
 rw [c8] at h8
 obtain rfl:E'.mv=mv:=by injection h8 with h8;injection h8 with h8;injection h8
 exact h.m.lookV (i:=(Qd t,gk)) ⟨Ki hid,by unfold Ui;simp only;omega⟩ hb
theorem QjV {κ V:Type} [DecidableEq κ] (kv:List (κ × V)) (k:κ) (v v':V):Qs (Qs kv k v) k v'=Qs kv k v':=by
 unfold Qs
 rw [List.filter_cons,if_neg (by simp),List.filter_filter]
 simp
theorem ZK.put (h:ZK w wr bx B p c g n lab b off q gs t y os) {v:Zj} (hv:Qe y.wt (Qd t)=some v) (hT:Yh v.gs v.vs) (h4:v.gs.length<=4) {gk:Int} (hg:0<=gk/\gk<4) (s:Bool) :
  ∃ tp,wr.cell? ⟨q,5,none⟩=some (.pointer (some ⟨tp,0,none⟩))/\Calls Tryz.prog 90 #[.pointer (some ⟨tp,0,none⟩),.int .i64 gk,.bool s] wr fun e w'=>(∃ z:Bool,e = .returned (.bool z))/\ZK w w' bx B p c g n lab b off q gs t { y with wt:=Qs y.wt (Qd t) { v with vs:=ZS v.gs v.vs gk s } } os/\(∀ b' j u,(b'=p \/ b'=bx \/ b'=q)->wr.cell? ⟨b',j,none⟩=some u->w'.cell? ⟨b',j,none⟩=some u):=by
 obtain ⟨lab',E',ov',h⟩:=h
 have hd:=h
 obtain ⟨A1,A2,Ag,a1,a2,ag,tp,tg,tb,tc,hI⟩:=hd.m.wt _ v hv
 have hq:=h.pq
 refine ⟨tp,?_,?_⟩
 ·have:wr.cell? ⟨q,5,none⟩=some (.pointer (some ⟨tp,0,none⟩)):=by rw [<- hq,cell_of_row wr _ _ _ _ _ hI.blk];rfl
  exact this
 ·refine (Qe6 gk s (by omega) (by omega) (by omega) _ hI.tal hT).mono ?_
  rintro e w2 ⟨rfl,ht2,hg2⟩
  obtain ⟨hM2,ho2⟩:=hd.m.vote hv hI ht2 hg2
  have hl:∀ k,k=tb->lab' k = .one (Qd t):=fun k e=>by rw [e];exact hI.ltb
  have htq:tb ≠ q:=fun e=>by
   obtain ⟨es,clock,hb,_⟩:=hI.tal.own
   have h1:=hI.blk
   rw [hq, <- e,hb] at h1
   cases h1
  have htb:¬ tb=b \/ gs.length=0:=by
   by_cases hz:gs.length=0
   ·exact .inr hz
   ·left
    intro e
    obtain ⟨b',off',e1,hc⟩:=hd.gr 0 (by omega)
    cases e1
    obtain ⟨es,clock,hb,_⟩:=hI.tal.own
    subst e
    simp [World.cell?,hb] at hc
  refine ⟨⟨_,rfl⟩,?_,fun b' j u hb' hu=>ho2.cell hu (fun e=>?_)⟩
  ·have hgr:QV w2 (some ⟨b,off,none⟩) gs:=fun j hj=>by
    obtain ⟨b',off',e1,hc⟩:=hd.gr j hj
    cases e1
    exact ⟨_,_,rfl,ho2.cell hc (fun e=>htb.elim (fun z=>z e.symm) (fun z=>by omega))⟩
   have hxO:bx ≠ tb:=fun e=>hd.xne (hl _ rfl) (by intro z;cases z) e.symm
   have hlt:∀ k,lab' k ≠ .no->k<wr.heap.size:=fun k hk=>(hd.m.lt k hk).2
   exact ⟨_,E',ov',{ m:=hM2,o:=hd.o.rest ho2 hl hlt (by intro z;cases z),st:=hd.st.trans (QE.relab ho2 hl (by intro z;cases z)),cn:={ h.cn with },pq:=h.pq,lb:=by rw [Xr (hlt b (by rw [h.lb];intro z;cases z))];exact h.lb,lx:=by rw [Xr hd.lxw];exact h.lx,lxw:=Nat.lt_of_lt_of_le hd.lxw ho2.size,gr:=hgr,x0:=ho2.cell hd.x0 hxO,x1:=ho2.cell hd.x1 hxO,tb:=hd.tb.out ho2 (fun k e=>(hd.m.lt k (by rw [hl k e];intro z;cases z)).1) }⟩
  ·rcases hb' with rfl | rfl | rfl
   ·exact hd.pne (hl _ e) (by intro z;cases z) rfl
   ·exact hd.xne (hl _ e) (by intro z;cases z) rfl
   ·exact htq e.symm
end
def ZX (a:Q2):Bool :=
 if a.k == 0 then XP a Kh
 else if a.k == 1 then Qh a.t && XP a ⟨1,a.t,a.A,a.B,a.ca,a.cb,0,0,0,0,false⟩
 else if a.k == 2 then idB a.is a.iq && decide ((1:Int)<=(a.st:Int)) && decide ((a.st:Int)<9223372036854775808) && J5 a.g && XP a ⟨2,⟨0,0,[],[]⟩,none,none,0,0,a.is,a.iq,a.g,a.st,false⟩
 else if a.k == 3 then idB a.is a.iq && J5 a.g && XP a ⟨3,⟨0,0,[],[]⟩,none,none,0,0,a.is,a.iq,a.g,0,a.y⟩
 else false
set_option maxRecDepth 100000 in
set_option maxHeartbeats 4000000 in
theorem Qgs (a:Q2) (w:World) (ha:QY w a.t a.A a.B) (hT:XT w):Calls Tryz.prog 40 #[.agg a.vs] w fun e w'=>e = .returned (.bool (ZX a))/\Below w.heap.size w w':=by
 obtain ⟨W,eW,HB,hsz0,hr0⟩:=Uy w a.vs 41
 clear hsz0
 obtain ⟨c0,c1,c2,c3,c4,c5,c6,c7,c8,c9⟩:=V5 hr0
 have haW:=Lib.hid (ha.later HB)
 have hTW:=Lib.hid (hT.later HB)
 clear hr0 ha hT
 obtain ⟨rF,hF⟩:∃ r,Qh a.t=r:=⟨_,rfl⟩
 obtain ⟨rI,hI⟩:∃ r,idB a.is a.iq=r:=⟨_,rfl⟩
 obtain ⟨rG,hG⟩:∃ r,J5 a.g=r:=⟨_,rfl⟩
 obtain ⟨bq,hq⟩:∃ b,decide ((a.st:Int)<9223372036854775808)=b:=⟨_,rfl⟩
 obtain ⟨bp,hp⟩:∃ b,decide ((1:Int)<=(a.st:Int))=b:=⟨_,rfl⟩
 have HF:Hid (∀ wz,Below W.heap.size W wz->Calls Tryz.prog 81 #[.agg #[.int .i64 a.t.ses,.int .i64 a.t.seq,.slice a.A a.t.rds.length a.ca,.slice a.B a.t.wrs.length a.cb]] wz fun e w'=>e = .returned (.bool rF)/\Below wz.heap.size wz w'):=fun wz hb=>by
  have:=YM a.t a.A a.B a.ca a.cb wz (haW.out.later hb) (hTW.out.later hb)
  rw [hF] at this;exact this
 have HI:Hid (∀ wz,Calls Tryz.prog 82 #[.agg #[.int .i64 a.is,.int .i64 a.iq]] wz fun e w'=>e = .returned (.bool rI)/\Below wz.heap.size wz w'):=fun wz=>by
  have:=Kv a.is a.iq wz
  rw [hI] at this;exact this
 have HG:Hid (∀ wz,Calls Tryz.prog 83 #[.int .i64 a.g] wz fun e w'=>e = .returned (.bool rG)/\Below wz.heap.size wz w'):=fun wz=>by
  have:=Qhv a.g wz
  rw [hG] at this;exact this
 cases k0:(a.k == 0)
 case true =>
  obtain ⟨r0,h0⟩:∃ r,XP a Kh=r:=⟨_,rfl⟩
  have HS:Hid (∀ wz,Below W.heap.size W wz->Calls Tryz.prog 80 #[.agg #[.int .i64 a.k,.int .i64 a.t.ses,.int .i64 a.t.seq,.slice a.A a.t.rds.length a.ca,.slice a.B a.t.wrs.length a.cb,.int .i64 a.is,.int .i64 a.iq,.int .i64 a.g,.int .u64 (a.st:Int),.bool a.y],.agg #[.int .i64 0,.int .i64 0,.int .i64 0,.slice none 0 0,.slice none 0 0,.int .i64 0,.int .i64 0,.int .i64 0,.int .u64 0,.bool false]] wz fun e w'=>e = .returned (.bool r0)/\Below wz.heap.size wz w'):=fun wz hb=>by
   have:=VR a Kh wz (haW.out.later hb) (QaF _)
   rw [h0] at this;exact this
  have HE:Hid (ZX a=(r0)):=by show _=_;simp only [ZX,h0,k0,hF,hI,hG,hp,hq];rfl
  clear h0 hF hI hG
  skip
  all_goals
   have HK:Below W.heap.size W W:=Below.refl _ _
   go_enter Tryz.func40,Tryz.ntmps40
   go_wp2_with (first
    | (go_at_call 80;refine (HS.out _ HK).mono ?_;rintro e w1 ⟨rfl,hb⟩;replace HK:=Qa HK hb;clear hb)
    | (go_at_call 81;refine (HF.out _ HK).mono ?_;rintro e w1 ⟨rfl,hb⟩;replace c0:=keep hb c0;replace c1:=keep hb c1;replace c2:=keep hb c2;replace c3:=keep hb c3;replace c4:=keep hb c4;replace c5:=keep hb c5;replace c6:=keep hb c6;replace c7:=keep hb c7;replace c8:=keep hb c8;replace c9:=keep hb c9;replace HK:=Qa HK hb;clear hb)
    | (go_at_call 82;refine (HI.out _).mono ?_;rintro e w1 ⟨rfl,hb⟩;replace c0:=keep hb c0;replace c1:=keep hb c1;replace c2:=keep hb c2;replace c3:=keep hb c3;replace c4:=keep hb c4;replace c5:=keep hb c5;replace c6:=keep hb c6;replace c7:=keep hb c7;replace c8:=keep hb c8;replace c9:=keep hb c9;replace HK:=Qa HK hb;clear hb)
    | (go_at_call 83;refine (HG.out _).mono ?_;rintro e w1 ⟨rfl,hb⟩;replace c0:=keep hb c0;replace c1:=keep hb c1;replace c2:=keep hb c2;replace c3:=keep hb c3;replace c4:=keep hb c4;replace c5:=keep hb c5;replace c6:=keep hb c6;replace c7:=keep hb c7;replace c8:=keep hb c8;replace c9:=keep hb c9;replace HK:=Qa HK hb;clear hb))
   go_ret
   exact ⟨Qm (by rw [HE.out] <;> simp),Qa HB HK⟩
 cases k1:(a.k == 1)
 case true =>
  obtain ⟨r0,h0⟩:∃ r,XP a ⟨1,a.t,a.A,a.B,a.ca,a.cb,0,0,0,0,false⟩=r:=⟨_,rfl⟩
  have HS:Hid (∀ wz,Below W.heap.size W wz->Calls Tryz.prog 80 #[.agg #[.int .i64 a.k,.int .i64 a.t.ses,.int .i64 a.t.seq,.slice a.A a.t.rds.length a.ca,.slice a.B a.t.wrs.length a.cb,.int .i64 a.is,.int .i64 a.iq,.int .i64 a.g,.int .u64 (a.st:Int),.bool a.y],.agg #[.int .i64 1,.int .i64 a.t.ses,.int .i64 a.t.seq,.slice a.A a.t.rds.length a.ca,.slice a.B a.t.wrs.length a.cb,.int .i64 0,.int .i64 0,.int .i64 0,.int .u64 0,.bool false]] wz fun e w'=>e = .returned (.bool r0)/\Below wz.heap.size wz w'):=fun wz hb=>by
   have:=VR a ⟨1,a.t,a.A,a.B,a.ca,a.cb,0,0,0,0,false⟩ wz (haW.out.later hb) (haW.out.later hb)
   rw [h0] at this;exact this
  have HE:Hid (ZX a=(rF && r0)):=by show _=_;simp only [ZX,h0,k0,k1,hF,hI,hG,hp,hq];rfl
  clear h0 hF hI hG
  cases rF
  all_goals
   have HK:Below W.heap.size W W:=Below.refl _ _
   go_enter Tryz.func40,Tryz.ntmps40
   go_wp2_with (first
    | (go_at_call 80;refine (HS.out _ HK).mono ?_;rintro e w1 ⟨rfl,hb⟩;replace HK:=Qa HK hb;clear hb)
    | (go_at_call 81;refine (HF.out _ HK).mono ?_;rintro e w1 ⟨rfl,hb⟩;replace c0:=keep hb c0;replace c1:=keep hb c1;replace c2:=keep hb c2;replace c3:=keep hb c3;replace c4:=keep hb c4;replace c5:=keep hb c5;replace c6:=keep hb c6;replace c7:=keep hb c7;replace c8:=keep hb c8;replace c9:=keep hb c9;replace HK:=Qa HK hb;clear hb)
    | (go_at_call 82;refine (HI.out _).mono ?_;rintro e w1 ⟨rfl,hb⟩;replace c0:=keep hb c0;replace c1:=keep hb c1;replace c2:=keep hb c2;replace c3:=keep hb c3;replace c4:=keep hb c4;replace c5:=keep hb c5;replace c6:=keep hb c6;replace c7:=keep hb c7;replace c8:=keep hb c8;replace c9:=keep hb c9;replace HK:=Qa HK hb;clear hb)
    | (go_at_call 83;refine (HG.out _).mono ?_;rintro e w1 ⟨rfl,hb⟩;replace c0:=keep hb c0;replace c1:=keep hb c1;replace c2:=keep hb c2;replace c3:=keep hb c3;replace c4:=keep hb c4;replace c5:=keep hb c5;replace c6:=keep hb c6;replace c7:=keep hb c7;replace c8:=keep hb c8;replace c9:=keep hb c9;replace HK:=Qa HK hb;clear hb))
   go_ret
   exact ⟨Qm (by rw [HE.out] <;> simp),Qa HB HK⟩
 cases k2:(a.k == 2)
 case true =>
  obtain ⟨r0,h0⟩:∃ r,XP a ⟨2,⟨0,0,[],[]⟩,none,none,0,0,a.is,a.iq,a.g,a.st,false⟩=r:=⟨_,rfl⟩
  have HS:Hid (∀ wz,Below W.heap.size W wz->Calls Tryz.prog 80 #[.agg #[.int .i64 a.k,.int .i64 a.t.ses,.int .i64 a.t.seq,.slice a.A a.t.rds.length a.ca,.slice a.B a.t.wrs.length a.cb,.int .i64 a.is,.int .i64 a.iq,.int .i64 a.g,.int .u64 (a.st:Int),.bool a.y],.agg #[.int .i64 2,.int .i64 0,.int .i64 0,.slice none 0 0,.slice none 0 0,.int .i64 a.is,.int .i64 a.iq,.int .i64 a.g,.int .u64 (a.st:Int),.bool false]] wz fun e w'=>e = .returned (.bool r0)/\Below wz.heap.size wz w'):=fun wz hb=>by
   have:=VR a ⟨2,⟨0,0,[],[]⟩,none,none,0,0,a.is,a.iq,a.g,a.st,false⟩ wz (haW.out.later hb) (QaF _)
   rw [h0] at this;exact this
  have HE:Hid (ZX a=(rI && bp && bq && rG && r0)):=by show _=_;simp only [ZX,h0,k0,k1,k2,hF,hI,hG,hp,hq];rfl
  clear h0 hF hI hG
  cases rI <;> cases bp <;> cases bq <;> cases rG
  all_goals
   have HK:Below W.heap.size W W:=Below.refl _ _
   go_enter Tryz.func40,Tryz.ntmps40
   go_wp2_with (first
    | (go_at_call 80;refine (HS.out _ HK).mono ?_;rintro e w1 ⟨rfl,hb⟩;replace HK:=Qa HK hb;clear hb)
    | (go_at_call 81;refine (HF.out _ HK).mono ?_;rintro e w1 ⟨rfl,hb⟩;replace c0:=keep hb c0;replace c1:=keep hb c1;replace c2:=keep hb c2;replace c3:=keep hb c3;replace c4:=keep hb c4;replace c5:=keep hb c5;replace c6:=keep hb c6;replace c7:=keep hb c7;replace c8:=keep hb c8;replace c9:=keep hb c9;replace HK:=Qa HK hb;clear hb)
    | (go_at_call 82;refine (HI.out _).mono ?_;rintro e w1 ⟨rfl,hb⟩;replace c0:=keep hb c0;replace c1:=keep hb c1;replace c2:=keep hb c2;replace c3:=keep hb c3;replace c4:=keep hb c4;replace c5:=keep hb c5;replace c6:=keep hb c6;replace c7:=keep hb c7;replace c8:=keep hb c8;replace c9:=keep hb c9;replace HK:=Qa HK hb;clear hb)
    | (go_at_call 83;refine (HG.out _).mono ?_;rintro e w1 ⟨rfl,hb⟩;replace c0:=keep hb c0;replace c1:=keep hb c1;replace c2:=keep hb c2;replace c3:=keep hb c3;replace c4:=keep hb c4;replace c5:=keep hb c5;replace c6:=keep hb c6;replace c7:=keep hb c7;replace c8:=keep hb c8;replace c9:=keep hb c9;replace HK:=Qa HK hb;clear hb))
   go_ret
   exact ⟨Qm (by rw [HE.out] <;> simp),Qa HB HK⟩
 cases k3:(a.k == 3)
 case true =>
  obtain ⟨r0,h0⟩:∃ r,XP a ⟨3,⟨0,0,[],[]⟩,none,none,0,0,a.is,a.iq,a.g,0,a.y⟩=r:=⟨_,rfl⟩
  have HS:Hid (∀ wz,Below W.heap.size W wz->Calls Tryz.prog 80 #[.agg #[.int .i64 a.k,.int .i64 a.t.ses,.int .i64 a.t.seq,.slice a.A a.t.rds.length a.ca,.slice a.B a.t.wrs.length a.cb,.int .i64 a.is,.int .i64 a.iq,.int .i64 a.g,.int .u64 (a.st:Int),.bool a.y],.agg #[.int .i64 3,.int .i64 0,.int .i64 0,.slice none 0 0,.slice none 0 0,.int .i64 a.is,.int .i64 a.iq,.int .i64 a.g,.int .u64 0,.bool a.y]] wz fun e w'=>e = .returned (.bool r0)/\Below wz.heap.size wz w'):=fun wz hb=>by
   have:=VR a ⟨3,⟨0,0,[],[]⟩,none,none,0,0,a.is,a.iq,a.g,0,a.y⟩ wz (haW.out.later hb) (QaF _)
   rw [h0] at this;exact this
  have HE:Hid (ZX a=(rI && rG && r0)):=by show _=_;simp only [ZX,h0,k0,k1,k2,k3,hF,hI,hG,hp,hq];rfl
  clear h0 hF hI hG
  cases rI <;> cases rG
  all_goals
   have HK:Below W.heap.size W W:=Below.refl _ _
   go_enter Tryz.func40,Tryz.ntmps40
   go_wp2_with (first
    | (go_at_call 80;refine (HS.out _ HK).mono ?_;rintro e w1 ⟨rfl,hb⟩;replace HK:=Qa HK hb;clear hb)
    | (go_at_call 81;refine (HF.out _ HK).mono ?_;rintro e w1 ⟨rfl,hb⟩;replace c0:=keep hb c0;replace c1:=keep hb c1;replace c2:=keep hb c2;replace c3:=keep hb c3;replace c4:=keep hb c4;replace c5:=keep hb c5;replace c6:=keep hb c6;replace c7:=keep hb c7;replace c8:=keep hb c8;replace c9:=keep hb c9;replace HK:=Qa HK hb;clear hb)
    | (go_at_call 82;refine (HI.out _).mono ?_;rintro e w1 ⟨rfl,hb⟩;replace c0:=keep hb c0;replace c1:=keep hb c1;replace c2:=keep hb c2;replace c3:=keep hb c3;replace c4:=keep hb c4;replace c5:=keep hb c5;replace c6:=keep hb c6;replace c7:=keep hb c7;replace c8:=keep hb c8;replace c9:=keep hb c9;replace HK:=Qa HK hb;clear hb)
    | (go_at_call 83;refine (HG.out _).mono ?_;rintro e w1 ⟨rfl,hb⟩;replace c0:=keep hb c0;replace c1:=keep hb c1;replace c2:=keep hb c2;replace c3:=keep hb c3;replace c4:=keep hb c4;replace c5:=keep hb c5;replace c6:=keep hb c6;replace c7:=keep hb c7;replace c8:=keep hb c8;replace c9:=keep hb c9;replace HK:=Qa HK hb;clear hb))
   go_ret
   exact ⟨Qm (by rw [HE.out] <;> simp),Qa HB HK⟩
 have HE:Hid (ZX a=false):=by show _=_;simp only [ZX,k0,k1,k2,k3];rfl
 clear hF hI hG
 go_enter Tryz.func40,Tryz.ntmps40
 go_wp2
 go_ret
 exact ⟨Qm (by rw [HE.out]),HB⟩
end Go.Proofs.YtcldpmkhpmlcbaaGreatDoor
