/- part -/
import Derived.Test.YtcldpmkhpmlcbaaGreatDoorJ13
import Derived.Deep.RegionHeld3
import Derived.Deep.DeepCutAuto
import Derived.Deep.AppendLies
set_option linter.unusedVariables false
set_option linter.unusedSimpArgs false
namespace Go.Proofs.YtcldpmkhpmlcbaaGreatDoor
open Go.RowKit Go.Shelf Go.Maps
structure QoB (w w':World) (B p:Nat) (c:Ql) (g:Int) (lab:Nat->QL) (x:Qk) (E:Q9) (O:Nat->Prop) (os:List Qv):Prop where
 ex:∃ lab' ov',Qo w' B p c g lab' x E ov'/\Q8 w' B lab' ov' os/\X9 lab lab' w.heap.size
 out:Qg O w w'
def UZ (w:World) (B p:Nat) (c:Ql) (g:Int) (lab:Nat->QL) (x:Qk) (E:Q9) (os:List Qv) (e:Ending) (w':World):Prop :=
 e = .returned (.tuple #[])/\QoB w w' B p c g lab x E (fun k=>lab k = .m \/ lab k = .out) os
structure Qei (W wr:World) (bx:Nat) (B p:Nat) (c:Ql) (g:Int) (lab:Nat->QL) (x:Qk) (E:Q9) (kd:Int) (s:Nat) (y:Bool) (os:List Qv):Prop where
 ex:∃ lab' ov',Qo wr B p c g lab' x E ov'/\Q8 wr B lab' ov' os/\X9 lab lab' W.heap.size
 out:Qg (fun k=>lab k = .m \/ lab k = .out \/ k=bx) W wr
 box:∃ z1 z2 z3,wr.heap[bx]? = some (.cells #[.int .i64 kd,z1,z2,z3,.int .u64 (s:Int),.bool y] 43 (0,0))
theorem QjO {g:Int} {gs:List Int} {k:Nat} (hk:k<gs.length) (h:gs.getD k 0=g) (kd:Int) (i:Qp) (s:Nat) (y:Bool):Zb g (gs.take (k+1)) kd i s y=Zb g (gs.take k) kd i s y:=by
 rw [List.getD_eq_getElem?_getD,List.getElem?_eq_getElem hk] at h
 simp only [Option.getD_some] at h
 simp [Zb,List.take_succ_eq_append_getElem hk,List.filter_append,h]
theorem QjP {g:Int} {gs:List Int} {k:Nat} {h:Int} (hk:k<gs.length) (hh:gs.getD k 0=h) (hne:h ≠ g) (kd:Int) (i:Qp) (s:Nat) (y:Bool):Zb g (gs.take (k+1)) kd i s y=Zb g (gs.take k) kd i s y ++ [⟨kd,h,i,s,y⟩]:=by
 rw [List.getD_eq_getElem?_getD,List.getElem?_eq_getElem hk] at hh
 simp only [Option.getD_some] at hh
 simp [Zb,List.take_succ_eq_append_getElem hk,List.filter_append,hh,hne]
theorem Qo8 (w:World) (a b c d e f:Value) (t:TypeId):∃ W:World,w.alloc (.cells #[a,b,c,d,e,f] t)=W/\Below w.heap.size w W/\W.heap[w.heap.size]? = some (.cells #[a,b,c,d,e,f] t (0,0)) :=
 ⟨_,rfl,Qc _ _,heap_alloc_new w _⟩
set_option maxRecDepth 100000 in
set_option maxHeartbeats 4000000 in
theorem Qhn {w:World} {B p:Nat} {c:Ql} {g:Int} {lab:Nat->QL} {x:Qk} {E:Q9} {ov:Value} {os:List Qv} {i:Qp} {v:Zj} (h:Qo w B p c g lab x E ov) (hr:Q8 w B lab ov os) (hv:Qe x.wt i=some v) (hgs:v.gs.length<=4) (hos:os.length<=900000) (kd:Int) (s:Nat) (y:Bool) :
  Calls Tryz.prog 95 #[.pointer (some ⟨p,0,none⟩),.pointer (some ⟨E.pp i,0,none⟩),.agg #[.int .i64 kd,.int .i64 0,.int .i64 0,.int .i64 0,.int .u64 (s:Int),.bool y]] w (UZ w B p c g lab x E (os ++ Zb g v.gs kd (Qd v.t) s y)):=by
 obtain ⟨W,eW,HB,hbox⟩:=Qo8 w (.int .i64 kd) (.int .i64 0) (.int .i64 0) (.int .i64 0) (.int .u64 (s:Int)) (.bool y) 43
 have hM:=Lib.hid (h.later HB)
 have hbox0:=Lib.hid hbox
 have hrow:Hid (Q8 W B lab ov (os ++ Zb g (v.gs.take 0) kd (Qd v.t) s y)):=by
  have e:Zb g (v.gs.take 0) kd (Qd v.t) s y=[]:=rfl
  show Q8 _ _ _ _ _
  rw [e,List.append_nil]
  exact ⟨Qi hr.1 HB,hr.2⟩
 have hWait:=(hM.out.wt i v hv)
 have hwv:=Lib.hid hv
 have hlt0:Hid (∀ k,lab k ≠ .no->k<w.heap.size):=fun k hk=>(h.lt k hk).2
 have hszW:Hid (w.heap.size<W.heap.size):=by show _<_;rw [<- eW];simp
 obtain ⟨A,A',Ag,ca,cb,cg,tp,tg,tb,tc,hI⟩:=hWait
 have c4:W.cell? ⟨E.pp i,4,none⟩=some (.slice Ag v.gs.length cg):=by rw [cell_of_row W _ _ _ _ _ hI.blk];rfl
 have hII:=Lib.hid hI
 have hBw:=Lib.hid h.hB
 clear hI hv h hr hbox
 go_enter Tryz.func95,Tryz.ntmps95
 go_wp2_with fail
 go_loopw [13] (fun cc wr=>∃ k:Nat,k<=v.gs.length/\cc = .int .i64 k/\Hid (Qei W wr w.heap.size B p c g lab x E kd s y (os ++ Zb g (v.gs.take k) kd (Qd v.t) s y))) (fun cc _=>v.gs.length-(intOf cc).toNat)
 case atStart=>exact ⟨0,Nat.zero_le _,rfl,⟨⟨lab,ov,hM.out,hrow.out,X9.refl _ _⟩,Qg.refl _ _,⟨_,_,_,hbox0.out⟩⟩⟩
 case round =>
  obtain ⟨k,hk,rfl,HL⟩:=hrel
  by_cases hlt:k<v.gs.length
  ·have hIr:=Lib.hid (hII.out.out HL.out.out (fun b hb e=>by
    rcases e with e | e | e
    ·rw [hb] at e;cases e
    ·rw [hb] at e;cases e
    ·have:=hlt0.out b (by rw [hb];intro z;cases z)
     omega) (fun b e=>by
    rcases e with e | e | e
    ·exact (hM.out.lt b (by rw [e];decide)).1
    ·exact (hM.out.lt b (by rw [e];decide)).1
    ·rw [e];exact hBw.out))
   obtain ⟨b,off,gi,rfl,d0,HX⟩:=QV.at' hIr.out.gr hlt
   obtain ⟨⟨lab',ov',hM',hR',hE'⟩,ho',⟨z1,z2,z3,hbx⟩⟩:=HL.out
   have e2:wr.cell? ⟨p,2,none⟩=some (.int .i64 g):=by rw [cell_of_row wr _ _ _ _ _ hM'.blk];rfl
   by_cases hgi:gi=g
   ·have hT:=QjO hlt (HX.out.trans hgi) kd (Qd v.t) s y
    have hgi':(gi != g)=false:=by simp [hgi]
    have HL2:Hid (Qei W wr w.heap.size B p c g lab x E kd s y (os ++ Zb g (v.gs.take (k+1)) kd (Qd v.t) s y)):=by rw [hT];exact HL.out
    clear hT hgi hM' hR' hE' ho' hbx
    go_wp2
    go_roundw
    case rel=>exact ⟨k+1,by omega,by go_num,HL2⟩
    case measure=>simp [intOf];omega
   ·have hT:=Lib.hid (QjP hlt HX.out hgi kd (Qd v.t) s y)
    have hgi':(gi != g)=true:=by simp [hgi]
    have j0:wr.cell? ⟨E.pp i,0,none⟩=some (.int .i64 v.t.ses):=by rw [cell_of_row wr _ _ _ _ _ hIr.out.blk];rfl
    have j1:wr.cell? ⟨E.pp i,1,none⟩=some (.int .i64 v.t.seq):=by rw [cell_of_row wr _ _ _ _ _ hIr.out.blk];rfl
    have hpb:E.pp i ≠ w.heap.size:=fun e=>by
     have:=hlt0.out (E.pp i) (by rw [hII.out.lp];intro z;cases z)
     omega
    obtain ⟨x0,x1,x2,x3⟩:wr.cell? ⟨w.heap.size,0,none⟩=some (.int .i64 kd)/\wr.cell? ⟨w.heap.size,1,none⟩=some z1/\wr.cell? ⟨w.heap.size,2,none⟩=some z2/\wr.cell? ⟨w.heap.size,3,none⟩=some z3:=by
     refine ⟨?_,?_,?_,?_⟩ <;> (rw [cell_of_row wr _ _ _ _ _ hbx];rfl)
    have fz1:=frozen_of_row wr w.heap.size 1 _ _ hbx
    have fz2:=frozen_of_row wr w.heap.size 2 _ _ hbx
    have fz3:=frozen_of_row wr w.heap.size 3 _ _ hbx
    have hbx':=Lib.hid hbx
    have hM2:=Lib.hid hM'
    have hR2:=Lib.hid hR'
    have hE2:=Lib.hid hE'
    have ho2:=Lib.hid ho'
    obtain ⟨s0,hs0⟩:∃ s0,v.t.ses=s0:=⟨_,rfl⟩
    obtain ⟨s1,hs1⟩:∃ s1,v.t.seq=s1:=⟨_,rfl⟩
    rw [hs0] at j0
    rw [hs1] at j1
    clear hM' hR' hE' ho' hbx hgi
    go_wp2
    have ka:∀ u,(wr.setCell ⟨w.heap.size,1,none⟩ u).cell? ⟨E.pp i,0,none⟩=some (.int .i64 s0)/\(wr.setCell ⟨w.heap.size,1,none⟩ u).cell? ⟨E.pp i,1,none⟩=some (.int .i64 s1):=fun u=>⟨(QQ wr w.heap.size 1 u).cell j0 hpb,(QQ wr w.heap.size 1 u).cell j1 hpb⟩
    have kb:∀ u u' u'',(((wr.setCell ⟨w.heap.size,1,none⟩ u).setCell ⟨w.heap.size,2,none⟩ u').setCell ⟨w.heap.size,3,none⟩ u'').cell? ⟨E.pp i,0,none⟩=some (.int .i64 s0)/\(((wr.setCell ⟨w.heap.size,1,none⟩ u).setCell ⟨w.heap.size,2,none⟩ u').setCell ⟨w.heap.size,3,none⟩ u'').cell? ⟨E.pp i,1,none⟩=some (.int .i64 s1):=fun u u' u''=>⟨(QQ _ w.heap.size 3 u'').cell ((QQ _ w.heap.size 2 u').cell (ka u).1 hpb) hpb,(QQ _ w.heap.size 3 u'').cell ((QQ _ w.heap.size 2 u').cell (ka u).2 hpb) hpb⟩
    go_region_held3 (fun w'=>w'.cell? ⟨E.pp i,0,none⟩=some (.int .i64 s0)/\w'.cell? ⟨E.pp i,1,none⟩=some (.int .i64 s1))
     (first | exact ⟨j0,j1⟩ | exact ka _ | exact kb _ _ _)
     (fail)
    obtain ⟨w5,hw5⟩:∃ w5,(((wr.setCell ⟨w.heap.size,1,none⟩ (.int .i64 gi)).setCell ⟨w.heap.size,2,none⟩ (.int .i64 s0)).setCell ⟨w.heap.size,3,none⟩ (.int .i64 s1)).drew=w5:=⟨_,rfl⟩
    have hb5:w5.heap[w.heap.size]? = some (.cells #[.int .i64 kd,.int .i64 gi,.int .i64 s0,.int .i64 s1,.int .u64 (s:Int),.bool y] 43 (0,0)):=by
     rw [<- hw5]
     exact ZJ _ (ZJ _ (ZJ _ hbx'.out))
    have ho5:Qg (fun q=>q=w.heap.size) wr w5:=by
     rw [<- hw5]
     have:=((QQ wr w.heap.size 1 (.int .i64 gi)).trans' (QQ _ w.heap.size 2 (.int .i64 s0))).trans' (QQ _ w.heap.size 3 (.int .i64 s1))
     exact ⟨this.os,this.tape,this.output,this.size,this.block⟩
    have hlab:lab' w.heap.size = .no:=by
     rw [hE2.out _ hszW.out]
     cases e:lab w.heap.size
     case no=>rfl
     all_goals exact absurd (hlt0.out w.heap.size (by rw [e];intro z;cases z)) (Nat.lt_irrefl _)
    have hM5:=Lib.hid (hM2.out.out ho5 (fun q hq e=>hq (by rw [e];exact hlab)) (fun q e=>by rw [e];exact hBw.out))
    have hR5:=ho5.row hR2.out.1 (fun q hq e=>by
     have:=hR2.out.2 q hq
     rw [e,hlab] at this
     cases this)
    have k11:w5.cell? ⟨p,11,none⟩=some ov':=by rw [cell_of_row w5 _ _ _ _ _ hM5.out.blk];rfl
    have k11b:∀ o,(w5.alloc o).cell? ⟨p,11,none⟩=some ov':=fun o=>keep (Qc w5 o) k11
    have hbo:∀ o,Below w5.heap.size w5 (w5.alloc o):=fun o=>Qc w5 o
    obtain ⟨y0,y1,y2,y3,y4,y5⟩:w5.cell? ⟨w.heap.size,0,none⟩=some (.int .i64 kd)/\w5.cell? ⟨w.heap.size,1,none⟩=some (.int .i64 gi)/\w5.cell? ⟨w.heap.size,2,none⟩=some (.int .i64 s0)/\w5.cell? ⟨w.heap.size,3,none⟩=some (.int .i64 s1)/\w5.cell? ⟨w.heap.size,4,none⟩=some (.int .u64 (s:Int))/\w5.cell? ⟨w.heap.size,5,none⟩=some (.bool y):=by
     refine ⟨?_,?_,?_,?_,?_,?_⟩ <;> (rw [cell_of_row w5 _ _ _ _ _ hb5];rfl)
    obtain ⟨osk,hosk⟩:∃ osk,os ++ Zb g (v.gs.take k) kd (Qd v.t) s y=osk:=⟨_,rfl⟩
    rw [hosk] at hR5
    have hlen:osk.length<=900010:=by
     rw [<- hosk,List.length_append]
     have:(Zb g (v.gs.take k) kd (Qd v.t) s y).length<=4:=by
      unfold Zb
      rw [List.length_map]
      exact Nat.le_trans (List.length_filter_le _ _) (by rw [List.length_take];omega)
     omega
    obtain ⟨i0,hi0,hz0,hz1,hz2⟩:=info_parts Qbk
    have hnews:∀ j u,(X7 ⟨kd,gi,⟨s0,s1⟩,s,y⟩)[j]? = some u->(w5.alloc (.cells #[.int .i64 kd,.int .i64 gi,.int .i64 s0,.int .i64 s1,.int .u64 (s:Int),.bool y] 43)).cell? ((⟨w5.heap.size,0,none⟩:Addr).add j)=some u:=World.news_of_block (heap_alloc_new w5 (.cells #[.int .i64 kd,.int .i64 gi,.int .i64 s0,.int .i64 s1,.int .u64 (s:Int),.bool y] 43))
    have hownA:=Qi hR5 (Qc w5 (.cells #[.int .i64 kd,.int .i64 gi,.int .i64 s0,.int .i64 s1,.int .u64 (s:Int),.bool y] 43))
    have hbA:B<=(w5.alloc (.cells #[.int .i64 kd,.int .i64 gi,.int .i64 s0,.int .i64 s1,.int .u64 (s:Int),.bool y] 43)).heap.size:=Nat.le_trans hM5.out.hB (by simp)
    rw [hw5]
    clear hbx' hM2 ho2 ka kb j0 j1 x0 x1 x2 x3 fz1 fz2 fz3 hw5
    go_wp2
    have hpo:∀ q,ov'.ownBlock=some q->¬ q=p/\¬ q=w.heap.size:=fun q e=>by
     have h1:=hR2.out.2 q e
     refine ⟨fun z=>?_,fun z=>?_⟩
     ·rw [z,hM5.out.lm] at h1;cases h1
     ·rw [z,hlab] at h1;cases h1
    have hpx:¬ w.heap.size=p:=fun z=>by
     rw [z,hM5.out.lm] at hlab;cases hlab
    have fz11:∀ w15,(w5.alloc (.cells #[.int .i64 kd,.int .i64 gi,.int .i64 s0,.int .i64 s1,.int .u64 (s:Int),.bool y] 43)).grownBy w15 ov'.ownBlock->w15.cell? ⟨p,11,none⟩=some ov'/\w15.frozen? ⟨p,11,none⟩=false/\w15.heap[w.heap.size]? = some (.cells #[.int .i64 kd,.int .i64 gi,.int .i64 s0,.int .i64 s1,.int .u64 (s:Int),.bool y] 43 (0,0)):=fun w15 hg=>by
     have ho:Qg (fun q=>ov'.ownBlock=some q) _ w15:=Qg.of_grown hg (fun q e=>e)
     have hbp:=ho.obj (hM5.out.later (hbo _)).blk (fun e=>(hpo _ e).1 rfl)
     refine ⟨by rw [cell_of_row w15 _ _ _ _ _ hbp];rfl,frozen_of_row w15 p 11 _ _ hbp,?_⟩
     exact ho.obj ((Qg.of_below (O:=fun _=>False) (hbo _)).obj hb5 (fun e=>e)) (fun e=>(hpo _ e).2 rfl)
    have six:∀ wz:World,wz.heap[w.heap.size]? = some (.cells #[.int .i64 kd,.int .i64 gi,.int .i64 s0,.int .i64 s1,.int .u64 (s:Int),.bool y] 43 (0,0))->wz.cell? ⟨w.heap.size,0,none⟩=some (.int .i64 kd)/\wz.cell? ⟨w.heap.size,1,none⟩=some (.int .i64 gi)/\wz.cell? ⟨w.heap.size,2,none⟩=some (.int .i64 s0)/\wz.cell? ⟨w.heap.size,3,none⟩=some (.int .i64 s1)/\wz.cell? ⟨w.heap.size,4,none⟩=some (.int .u64 (s:Int))/\wz.cell? ⟨w.heap.size,5,none⟩=some (.bool y):=fun wz hz=>by
     refine ⟨?_,?_,?_,?_,?_,?_⟩ <;> (rw [cell_of_row wz _ _ _ _ _ hz];rfl)
    have yA:=six (w5.alloc (.cells #[.int .i64 kd,.int .i64 gi,.int .i64 s0,.int .i64 s1,.int .u64 (s:Int),.bool y] 43)).drew ((Qg.of_below (O:=fun _=>False) (hbo (.cells #[.int .i64 kd,.int .i64 gi,.int .i64 s0,.int .i64 s1,.int .u64 (s:Int),.bool y] 43))).obj hb5 (fun e=>e))
    replace fz11:=Lib.hid fz11
    replace six:=Lib.hid six
    replace hpo:=Lib.hid hpo
    go_region_law (first
      | (refine Yr rfl _ _ 31 rfl B 43 i0 _ 6 48 Tryz.underlying31 hi0 hz0 hz1 hz2 rfl (by decide) ov' osk.length (ZV osk) rfl (Qi hownA (Qb (Below.refl _ _))) ⟨w5.heap.size,0,none⟩ 1 1 (X7 ⟨kd,gi,⟨s0,s1⟩,s,y⟩) rfl rfl hnews VI (QA (by omega)) (by omega) hbA ?_;intro v15 w15 HO15 hg15 hv15;obtain ⟨A15,k15,rfl⟩:=ZT HO15;have hg16:(w5.alloc (.cells #[.int .i64 kd,.int .i64 gi,.int .i64 s0,.int .i64 s1,.int .u64 (s:Int),.bool y] 43)).grownBy w15 ov'.ownBlock:=⟨hg15.os,hg15.tape,hg15.output,hg15.size,hg15.block⟩;obtain ⟨hc15,hf15,hbx15⟩:=fz11.out w15 hg16;have hbx16:=fun u=>(QQ w15 p 11 u).obj hbx15 hpx))
    all_goals
     have hPush:=(hM5.out.later (hbo (.cells #[.int .i64 kd,.int .i64 gi,.int .i64 s0,.int .i64 s1,.int .u64 (s:Int),.bool y] 43))).pushOut hR2.out.2 hg16 HO15 hv15
     have hsz5:wr.heap.size<=w5.heap.size:=ho5.size
     have HL2:Hid (Qei W (w15.setCell ⟨p,11,none⟩ (.slice A15 (osk.length+1) k15)) w.heap.size B p c g lab x E kd s y (os ++ Zb g (v.gs.take (k+1)) kd (Qd v.t) s y)):=by
      refine ⟨⟨_,_,hPush.1,?_,?_⟩,?_,⟨_,_,_,hbx16 _⟩⟩
      ·refine ⟨?_,hPush.2.2.1⟩
       rw [hT.out, <- List.append_assoc,hosk,KE,List.length_append]
       have e:(⟨kd,gi,Qd v.t,s,y⟩:Qv)=⟨kd,gi,⟨s0,s1⟩,s,y⟩:=by rw [<- hs0, <- hs1];rfl
       rw [e]
       exact hPush.2.1
      ·exact hE2.out.trans (K1 lab' _ _ _) (by have:=HL.out.out.size;simp;omega)
      ·have h1:Qg (fun q=>lab q = .m \/ lab q = .out \/ q=w.heap.size) W w5:=HL.out.out.trans' (ho5.mono fun q e=>.inr (.inr e))
       have h2:=h1.trans' (Qg.of_below (hbo (.cells #[.int .i64 kd,.int .i64 gi,.int .i64 s0,.int .i64 s1,.int .u64 (s:Int),.bool y] 43)))
       exact h2.trans_old hPush.2.2.2 (fun q hq e=>by
        rw [hE2.out q hq] at e
        exact e.elim .inl fun z=>.inr (.inl z))
     clear hPush
     go_wp2
     go_roundw
     case rel=>exact ⟨k+1,by omega,by go_num,HL2⟩
     case measure=>simp [intOf];omega
  ·have e:v.gs.take k=v.gs:=List.take_of_length_le (by omega)
   have HL2:Hid (Qei W wr w.heap.size B p c g lab x E kd s y (os ++ Zb g v.gs kd (Qd v.t) s y)):=by rw [<- e];rw [e];have:=HL.out;rw [e] at this;exact this
   clear e HL
   go_wp2
   go_end0
   obtain ⟨⟨lab',ov',hM',hR',hE'⟩,ho',hbx⟩:=HL2.out
   refine ⟨rfl,⟨⟨lab',ov',hM',hR',fun q hq=>hE' q (Nat.lt_trans hq hszW.out)⟩,?_⟩⟩
   exact ⟨ho'.os.trans HB.os,ho'.tape.trans HB.tape,ho'.output.trans HB.output,Nat.le_trans HB.size ho'.size,fun q hq hn=>by
    rw [ho'.block q (Nat.lt_of_lt_of_le hq HB.size) (fun z=>by
     rcases z with z | z | z
     ·exact hn (.inl z)
     ·exact hn (.inr z)
     ·omega)]
    exact HB.block q hq⟩
end Go.Proofs.YtcldpmkhpmlcbaaGreatDoor
