/- part -/
import Derived.Test.YtcldpmkhpmlcbaaGreatDoorK3
import Derived.BigQuiet
import Derived.BigRegion
set_option linter.unusedVariables false
set_option linter.unusedSimpArgs false
namespace Go.Proofs.YtcldpmkhpmlcbaaGreatDoor
open Go.RowKit Go.Shelf Go.Maps
theorem Qmc:(Tryz.prog.info? 29).map (fun i=>(i.zero,i.size,i.bytes))=some (some (.pointer none),1,8):=by kernel_rfl
theorem Qmd:(Tryz.prog.info? 26).map (fun i=>(i.zero,i.size,i.bytes))=some (some (.slice none 0 0),1,24):=by kernel_rfl
theorem Qga:(Tryz.prog.info? 38).map (fun i=>(i.zero,i.size,i.bytes))=some (some (.agg #[.int .i64 0,.int .i64 0,.slice none 0 0,.slice none 0 0]),4,64):=by kernel_rfl
theorem Qfd:∀ u ∈ [Value.slice none 0 0],u.oneCell'=true:=fun u hu=>by
 rw [List.mem_singleton.1 hu];rfl
theorem Ue {a b:Int} {A B:Option Addr} {n m ca cb:Nat}:∀ u ∈ [Value.int .i64 a,.int .i64 b,.slice A n ca,.slice B m cb],u.oneCell'=true:=fun u hu=>by
 simp only [List.mem_cons,List.not_mem_nil,or_false] at hu
 rcases hu with rfl | rfl | rfl | rfl <;> rfl
def QoN (w:World) (c:Ql) (e:Ending) (w':World):Prop :=
 (e = .returned (.tuple #[.pointer none,.slice none 0 0,.bool false])/\Below w.heap.size w w') \/
 ∃ w0 b F S ds ca,Below w.heap.size w w0/\e = .returned (.tuple #[.pointer (some ⟨b,0,none⟩),.slice S ds.length ca,.bool true])/\Q3 w0 w' b c c.reps.length c.reps.length Yu F/\Kl w0 w' F S ds/\Xp c (QS ds)/\((QS ds).map Qd).Nodup
set_option maxRecDepth 100000 in
set_option maxHeartbeats 8000000 in
theorem Qnl (c:Ql) (l:List Q6) (A A' S:Option Addr) (ca cb cs:Nat) (w:World) (h:Z9 w c A A') (hl:Qau w S l) (hn:l.length<=9223372036854775807) (hT:XT w) :
  Calls Tryz.prog 14 #[.agg #[.slice A c.reps.length ca,.slice A' c.bnds.length cb],.slice S l.length cs] w (QoN w c):=by
 obtain ⟨W,eW,HB,c0,c1⟩:=Y5 w (.slice A c.reps.length ca) (.slice A' c.bnds.length cb) 25
 have hW:=Lib.hid (h.later HB)
 have hl2:=Lib.hid (hl.later HB)
 have hTW:=Lib.hid (hT.later HB)
 have hFe:Hid (∀ wz,Below W.heap.size W wz->Calls Tryz.prog 36 #[.agg #[.slice A c.reps.length ca,.slice A' c.bnds.length cb]] wz fun e w'=>e = .returned (.bool (Qdj c))/\Below wz.heap.size wz w'):=fun wz hb=>QnM c A A' ca cb wz (hW.out.later hb)
 have hFo:Hid (∀ wz,Below W.heap.size W wz->Calls Tryz.prog 44 #[.agg #[.slice A c.reps.length ca,.slice A' c.bnds.length cb]] wz fun e w'=>e = .returned (.bool (Qn c))/\Below wz.heap.size wz w'):=fun wz hb=>Xg c A A' ca cb wz (hW.out.later hb)
 have hbb:Below W.heap.size W W:=Below.refl _ _
 have hnH:=Lib.hid hn
 clear h hl hT hn
 by_cases h14:14<l.length
 ·have q1:decide ((14:Int)<(l.length:Int))=true:=by rw [decide_eq_true_iff];omega
  clear h14 hFe hFo hW hl2 hTW
  go_enter Tryz.func14,Tryz.ntmps14
  go_wp2
  go_ret3
  exact .inl ⟨rfl,HB⟩
 have q1:decide ((14:Int)<(l.length:Int))=false:=by rw [decide_eq_false_iff_not];omega
 have h14H:Hid (l.length<=14):=by show _<=_;omega
 clear h14
 cases hf:Qdj c
 ·rw [hf] at hFe
  clear hf hFo hW hl2 hTW
  go_enter Tryz.func14,Tryz.ntmps14
  go_wp2_with (go_at_call 36;(with_reducible refine (hFe.out _ hbb).mono ?_);rintro e w0 ⟨rfl,hb0⟩;replace hbb:=Qa hbb hb0;clear hb0)
  go_ret3
  exact .inl ⟨rfl,Qa HB hbb⟩
 rw [hf] at hFe
 clear hf
 cases hfm:Qn c
 ·rw [hfm] at hFo
  clear hfm hW hl2 hTW
  go_enter Tryz.func14,Tryz.ntmps14
  go_wp2_with (first
   | (go_at_call 36;(with_reducible refine (hFe.out _ hbb).mono ?_);rintro e w0 ⟨rfl,hb0⟩;replace hbb:=Qa hbb hb0;clear hb0;have d0:=keep hbb c0;have d1:=keep hbb c1)
   | (go_at_call 44;(with_reducible refine (hFo.out _ hbb).mono ?_);rintro e w1 ⟨rfl,hb0⟩;replace hbb:=Qa hbb hb0;clear hb0))
  go_ret3
  exact .inl ⟨rfl,Qa HB hbb⟩
 rw [hfm] at hFo
 have hfmH:=Lib.hid hfm
 clear hfm
 go_enter Tryz.func14,Tryz.ntmps14
 go_wp2_with (first
  | (go_at_call 36;(with_reducible refine (hFe.out _ hbb).mono ?_);rintro e w0 ⟨rfl,hb0⟩;replace hbb:=Qa hbb hb0;clear hb0;have d0:=keep hbb c0;have d1:=keep hbb c1)
  | (go_at_call 44;(with_reducible refine (hFo.out _ hbb).mono ?_);rintro e w1 ⟨rfl,hb0⟩;replace hbb:=Qa hbb hb0;clear hb0;have d0:=keep hbb c0;have d1:=keep hbb c1))
 clear hFe hFo d0 d1
 obtain ⟨b,hb⟩:∃ b,w1.heap.size=b:=⟨_,rfl⟩
 have hI0:Hid (∃ F,Q3 W (w1.alloc (.cells #[.slice A c.reps.length ca,.slice A' c.bnds.length cb,.slice none 0 0,.slice none 0 0] 57)) b c 0 0 Yu F) :=
  ⟨_,Q3.start (Qa hbb (Qc w1 _)) (by rw [<- hb];exact hbb.size) hW.out (by rw [<- hb];exact heap_alloc_new w1 _)⟩
 rw [hb]
 clear hb hbb
 have hr4:=Lib.hid (ZI hfmH.out)
 go_loopw [8] (fun i wr=>∃ (g:Nat) (F1:Xe),g<=c.reps.length/\i = .int .i64 g/\Hid (Q3 W wr b c g g Yu F1)) (fun i _=>c.reps.length-(intOf i).toNat)
 case atStart =>
  obtain ⟨F,hF⟩:=hI0.out
  exact ⟨0,F,Nat.zero_le _,rfl,hF⟩
 case round =>
  obtain ⟨g,F1,hg,rfl,HI⟩:=hrel
  obtain ⟨wi,rfl⟩:∃ wi:World,wi=wr:=⟨_,rfl⟩
  clear hI0
  have e0:=keep HI.out.b0 c0
  have e1:=keep HI.out.b0 c1
  by_cases hlt:g<c.reps.length
  ·have hgi:(g:Int)<(c.reps.length:Int):=by omega
   have hg0:(0:Int)<=(g:Int):=by omega
   have hg4:g<4:=by have:=hr4.out.2;omega
   have hgH:=Lib.hid hlt
   have hNew:Hid (∀ wz,Below wi.heap.size wi wz->Calls Tryz.prog 11 #[.agg #[.slice A c.reps.length ca,.slice A' c.bnds.length cb],.int .i64 g] wz (QoM W wz b c g F1)):=fun wz hb=>Qpl (HI.out.later hb) hW.out hTW.out hfmH.out hgH.out
   obtain ⟨_,_,m2,_⟩:=HI.out.cs
   obtain ⟨Am,km,eM,_⟩:=HI.out.mach
   rw [eM] at m2
   obtain ⟨i0,hi0,hz0,hz1,hz2⟩:=info_parts Qmc
   clear hlt hg
   go_wp2
   have hbD:=Qb (Below.refl wi.heap.size wi)
   refine wp_region_noPanic ?_
   refine Yp (S:=(fun w'=>w'.cell? ⟨b,2,none⟩=some (.slice Am g km)/\w'.cell? ⟨w.heap.size,0,none⟩=some (.slice A c.reps.length ca)/\w'.cell? ⟨w.heap.size,1,none⟩=some (.slice A' c.bnds.length cb))) (ok:=?oK) (v:=?vK) 10 0 (by kernel_rfl) (by kernel_rfl) (by decide) ?hiK (by kernel_rfl) (by kernel_rfl) (by kernel_rfl) ?hqK (Or.inl ⟨?hgK,?hyK⟩) ⟨keep hbD m2,keep hbD e0,keep hbD e1⟩ (fun hHeld=>?restK)
   case hiK=>(simp only [List.getElem?_toArray,List.getElem?_cons_succ,List.getElem?_cons_zero];rfl)
   case hqK=>exact fun _ _ _ h=>h
   case hgK=>rfl
   case hyK=>(intro w;go_simp;(try with_reducible rfl))
   (try simp only [Act.put,List.setIfInBounds_toArray,List.set_cons_zero,List.set_cons_succ])
   simp only [List.take_succ_cons,List.take_zero,List.drop_succ_cons,List.drop_zero]
   refine wpAnyH_take (i:=1) (oi:=?o1_1) (v:=?v1_1) ?hi1_1 (by kernel_rfl) (by kernel_rfl) (by kernel_rfl) ?hq1_1 (Or.inl ⟨?hg1_1,?hy1_1⟩) hHeld ?rest1_1
   case hi1_1=>(simp only [List.getElem?_toArray,List.getElem?_cons_succ,List.getElem?_cons_zero];rfl)
   case hq1_1=>exact fun _ _ _ h=>h
   case hg1_1=>rfl
   case hy1_1=>(intro w hSw;(try dsimp only at hSw);go_simp;(try with_reducible rfl))
   (try simp only [Act.put,List.setIfInBounds_toArray,List.set_cons_zero,List.set_cons_succ])
   refine wpAnyH_take (i:=2) (oi:=?o2_2) (v:=?v2_2) ?hi2_2 (by kernel_rfl) (by kernel_rfl) (by kernel_rfl) ?hq2_2 (Or.inl ⟨?hg2_2,?hy2_2⟩) hHeld ?rest2_2
   case hi2_2=>(simp only [List.getElem?_toArray,List.getElem?_cons_succ,List.getElem?_cons_zero];rfl)
   case hq2_2=>exact fun _ _ _ h=>h
   case hg2_2=>rfl
   case hy2_2=>(intro w hSw;(try dsimp only at hSw);go_simp;(try with_reducible rfl))
   (try simp only [Act.put,List.setIfInBounds_toArray,List.set_cons_zero,List.set_cons_succ])
   refine wpAnyH_take (i:=3) (oi:=?o3_3) (v:=?v3_3) ?hi3_3 (by kernel_rfl) (by kernel_rfl) (by kernel_rfl) ?hq3_3 (Or.inl ⟨?hg3_3,?hy3_3⟩) hHeld ?rest3_3
   case hi3_3=>(simp only [List.getElem?_toArray,List.getElem?_cons_succ,List.getElem?_cons_zero];rfl)
   case hq3_3=>exact fun _ _ _ h=>h
   case hg3_3=>rfl
   case hy3_3=>(intro w hSw;(try dsimp only at hSw);go_simp;(try with_reducible rfl))
   (try simp only [Act.put,List.setIfInBounds_toArray,List.set_cons_zero,List.set_cons_succ])
   refine wpAnyH_take (i:=4) (oi:=?o4_4) (v:=?v4_4) ?hi4_4 (by kernel_rfl) (by kernel_rfl) (by kernel_rfl) ?hq4_4 (Or.inl ⟨?hg4_4,?hy4_4⟩) hHeld ?rest4_4
   case hi4_4=>(simp only [List.getElem?_toArray,List.getElem?_cons_succ,List.getElem?_cons_zero];rfl)
   case hq4_4=>exact fun _ _ _ h=>h
   case hg4_4=>rfl
   case hy4_4=>(intro w hSw;(try dsimp only at hSw);go_simp;(try with_reducible rfl))
   (try simp only [Act.put,List.setIfInBounds_toArray,List.set_cons_zero,List.set_cons_succ])
   refine wpAnyH_take (i:=5) (oi:=?o5_5) (v:=?v5_5) ?hi5_5 (by kernel_rfl) (by kernel_rfl) (by kernel_rfl) ?hq5_5 (Or.inl ⟨?hg5_5,?hy5_5⟩) hHeld ?rest5_5
   case hi5_5=>(simp only [List.getElem?_toArray,List.getElem?_cons_succ,List.getElem?_cons_zero];rfl)
   case hq5_5=>exact fun _ _ _ h=>h
   case hg5_5=>rfl
   case hy5_5=>(intro w hSw;(try dsimp only at hSw);go_simp;(try with_reducible rfl))
   (try simp only [Act.put,List.setIfInBounds_toArray,List.set_cons_zero,List.set_cons_succ])
   refine wpAnyH_take (i:=6) (oi:=?o6_6) (v:=?v6_6) ?hi6_6 (by kernel_rfl) (by kernel_rfl) (by kernel_rfl) ?hq6_6 (Or.inl ⟨?hg6_6,?hy6_6⟩) hHeld ?rest6_6
   case hi6_6=>(simp only [List.getElem?_toArray,List.getElem?_cons_succ,List.getElem?_cons_zero];rfl)
   case hq6_6=>exact fun _ _ _ h=>h
   case hg6_6=>rfl
   case hy6_6=>(intro w hSw;(try dsimp only at hSw);go_simp;(try with_reducible rfl))
   (try simp only [Act.put,List.setIfInBounds_toArray,List.set_cons_zero,List.set_cons_succ])
   refine wpAnyH_ready (rs:=[7]) (by kernel_rfl) (by simp) ?_
   refine AllReadyH.cons (o:=?p7_9) ?ho7_9 (fun KK hK=>?step7_9) ?more7_9
   case ho7_9=>(simp only [List.getElem?_toArray,List.getElem?_cons_succ,List.getElem?_cons_zero];rfl)
   case step7_9 =>
    go_simp
    (go_at_call 11;(with_reducible refine (hNew.out _ hbD).mono ?_);rintro e w2 ⟨p,lab,rfl,hI2,hb2,hG2,hf2⟩)
    have hb2':Below wi.heap.size wi w2:=Qa hbD hb2
    (try go_wp2_with fail)
    refine hK.out _ _ ⟨keep hb2' m2,keep hb2' e0,keep hb2' e1⟩ (fun hH2=>?_)
    clear hHeld hK KK
    have hHeld:=hH2
    clear hH2
    (try simp only [Act.put,List.setIfInBounds_toArray,List.set_cons_zero,List.set_cons_succ])
    refine wpAnyH_ready (rs:=[8]) (by kernel_rfl) (by simp) ?_
    refine AllReadyH.cons (o:=?p8_8) ?ho8_8 (fun KK hK=>?step8_8) ?more8_8
    case ho8_8=>(simp only [List.getElem?_toArray,List.getElem?_cons_succ,List.getElem?_cons_zero];rfl)
    case step8_8 =>
     go_simp
     (try go_wp2_with fail)
     refine hK.out _ _ ⟨keep (Qa hb2' (Qc _ _)) m2,keep (Qa hb2' (Qc _ _)) e0,keep (Qa hb2' (Qc _ _)) e1⟩ (fun hH2=>?_)
     clear hHeld hK KK
     have hHeld:=hH2
     clear hH2
     (try simp only [Act.put,List.setIfInBounds_toArray,List.set_cons_zero,List.set_cons_succ])
     refine wpAnyH_ready (rs:=[9]) (by kernel_rfl) (by simp) ?_
     refine AllReadyH.cons (o:=?p9_7) ?ho9_7 (fun KK hK=>?step9_7) ?more9_7
     case ho9_7=>(simp only [List.getElem?_toArray,List.getElem?_cons_succ,List.getElem?_cons_zero];rfl)
     case step9_7 =>
      have hmr2:=hI2.mr
      rw [eM] at hmr2
      refine Yr rfl _ _ 54 rfl W.heap.size 29 i0 _ 1 8 Tryz.underlying54 hi0 hz0 hz1 hz2 rfl (by decide) (.slice Am g km) g ((List.range g).map fun g=>.pointer (some ⟨F1.ps g,0,none⟩)) rfl (Qi hmr2 (Qc w2 _)) ⟨w2.heap.size,0,none⟩ 1 1 [.pointer (some ⟨p,0,none⟩)] rfl rfl (World.news_of_block (heap_alloc_new w2 _)) VG (QA (by omega)) (by omega) (Nat.le_trans hI2.b0.size (Qc w2 _).size) ?_
      intro v3 w3 HO3 hg3 hv3
      have ho3:Qg (fun k=>(Value.slice Am g km).ownBlock=some k) w2 w3:=(Qg.of_below (Qc w2 _)).trans' (Qg.of_grown hg3 (fun k e=>e))
      have hlm:∀ k,(Value.slice Am g km).ownBlock=some k->F1.ow k = .mrow:=fun k e=>hI2.lm k (by rw [eM];exact e)
      have hbn:¬ (Value.slice Am g km).ownBlock=some b:=fun z=>by have h1:=hlm b z;rw [hI2.lb] at h1;cases h1
      have hwn:¬ (Value.slice Am g km).ownBlock=some w.heap.size:=fun z=>by have h1:=hlm _ z;have h2:=(hI2.lt w.heap.size (by rw [h1];decide)).1;have h3:w.heap.size<W.heap.size:=Yc c0;omega
      have hblk3:=ho3.obj hI2.blk hbn
      refine hK _ _ ⟨ho3.cell (keep hb2' m2) hbn,ho3.cell (keep hb2' e0) hwn,ho3.cell (keep hb2' e1) hwn⟩ (fun hH2=>?_)
      clear hHeld hK KK
      have hHeld:=hH2
      clear hH2
      (try simp only [Act.put,List.setIfInBounds_toArray,List.set_cons_zero,List.set_cons_succ])
      refine wpAnyH_done (by kernel_rfl) ?_ _
      show wpList _ _ _ _ _ _
      obtain ⟨A3,k3,rfl⟩:=ZT HO3
      have m3:w3.cell? ⟨b,2,none⟩=some F1.mv:=by rw [cell_of_row w3 b _ _ _ _ hblk3];rfl
      have mf3:w3.frozen? ⟨b,2,none⟩=false:=frozen_of_row w3 b _ _ _ hblk3
      go_wp2
      refine NoPanic.normal ?_
      obtain ⟨F3,hI3,_,_⟩:=Q3.addM hI2 hG2 hf2 (by rw [eM];exact hg3) HO3 (by rw [eM];exact hv3)
      obtain ⟨w4,hw4⟩:∃ w4,w3.setCell ⟨b,2,none⟩ (.slice A3 (g+1) k3)=w4:=⟨_,rfl⟩
      rw [hw4] at hI3 ⊢
      clear hw4 m3 mf3 hv3 HO3 hHeld hblk3 hwn hbn hlm ho3 hg3 hmr2 hG2 hf2 hI2 hb2 hb2' hNew HI eM m2 e0 e1 hbD hi0 hz0 hz1 hz2
      obtain ⟨_,_,_,n3⟩:=hI3.cs
      obtain ⟨Aw,kw,eW,_⟩:=hI3.ways
      have hwr:=hI3.wrr
      rw [eW] at n3 hwr
      have hlw:∀ k,(Value.slice Aw g kw).ownBlock=some k->F3.ow k = .wrow:=fun k e=>hI3.lw k (by rw [eW];exact e)
      have hbn:¬ (Value.slice Aw g kw).ownBlock=some b:=fun z=>by have h1:=hlw b z;rw [hI3.lb] at h1;cases h1
      obtain ⟨i1,hi0,hz0,hz1,hz2⟩:=info_parts Qmd
      have hI3H:=Lib.hid hI3
      have eWH:=Lib.hid eW
      clear hI3 eW
      go_wp2_with (at_builtin;refine wpList_append_own_at _ rfl _ _ 55 rfl W.heap.size 26 i1 _ 1 24 Tryz.underlying55 hi0 hz0 hz1 hz2 rfl (by decide) (.slice Aw g kw) g ((List.range g).map F3.av) rfl (Qi hwr (Qc w4 _)) ⟨w4.heap.size,0,none⟩ 1 1 [.slice none 0 0] rfl rfl (World.news_of_block (heap_alloc_new w4 _)) Qfd (QA (by omega)) (by omega) (Nat.le_trans hI3H.out.b0.size (Qc w4 _).size) ?_;intro v5 w5 HO5 hg5 _ hv5;obtain ⟨A5,k5,rfl⟩:=ZT HO5;have ho5:Qg (fun k=>(Value.slice Aw g kw).ownBlock=some k) w4 w5:=(Qg.of_below (Qc w4 _)).trans' (Qg.of_grown hg5 (fun k e=>e));have hblk5:=ho5.obj hI3H.out.blk hbn;have m5:w5.cell? ⟨b,3,none⟩=some F3.wv:=(by rw [cell_of_row w5 b _ _ _ _ hblk5];rfl);have mf5:w5.frozen? ⟨b,3,none⟩=false:=frozen_of_row w5 b _ _ _ hblk5)
      obtain ⟨F5,hI5,_,_⟩:=Q3.addW hI3H.out rfl (by rw [eWH.out];exact hg5) HO5 (by rw [eWH.out];exact hv5)
      have HI5:=Lib.hid hI5
      clear hI5 hI3H eWH HO5 hg5 hv5 ho5 hblk5 m5 mf5 hwr n3 hi0 hz0 hz1 hz2
      go_roundw
      case rel=>exact ⟨g+1,F5,hgH.out,by go_num,HI5⟩
      case measure=>have:=hgH.out;simp [intOf];omega
     exact AllReadyH.nil
    exact AllReadyH.nil
   exact AllReadyH.nil
  ·obtain rfl:g=c.reps.length:=by omega
   have HB1:Hid (QaK W wi b c F1 (.slice none 0 0) (YU l 0)):=⟨HI.out,Q7 _ _ _ _,fun k e=>(by cases e),fun a h=>(by cases h)⟩
   clear HI hlt hg
   go_wp2
   go_loopw [9,10] (fun dv i wr=>∃ k:Nat,k<=l.length/\i = .int .i64 k/\Hid (QaK W wr b c F1 dv (YU l k))) (fun _ i _=>l.length-(intOf i).toNat)
   case atStart=>exact ⟨0,Nat.zero_le _,rfl,HB1⟩
   case round =>
    obtain ⟨k,hk,rfl,HI⟩:=hrel
    obtain ⟨wj,rfl⟩:∃ wi:World,wi=wr:=⟨_,rfl⟩
    clear HB1
    by_cases hlt:k<l.length
    ·obtain ⟨bt,off,a,rfl,x0,x1,x2,x3,ht,HX⟩:=(hl2.out.later HI.out.i.b0).at' hlt
     obtain ⟨ta,At,Bt,cta,ctb⟩:=a
     dsimp only at x0 x1 x2 x3 ht
     have hki:(k:Int)<(l.length:Int):=by omega
     have hk0:(0:Int)<=(k:Int):=by omega
     have hkH:=Lib.hid hlt
     have hkb:k<14:=by have:=h14H.out;omega
     obtain ⟨Ad,kd,rfl,_⟩:=HI.out.all
     clear hlt
     go_wp2_with fail
     obtain ⟨t,htd⟩:∃ t,Qcj ta k=t:=⟨_,rfl⟩
     have e0:1+(k:Int) % 8=t.ses:=by rw [<- htd];rfl
     have e1:1+(k:Int) / 8=t.seq:=by rw [<- htd];rfl
     have e2:ta.rds=t.rds:=by rw [<- htd];rfl
     have e3:ta.wrs=t.wrs:=by rw [<- htd];rfl
     have ht0:Hid (QY W t At Bt):=by
      obtain ⟨_,_,_,_,ht0⟩:=hl2.out k hkH.out
      rw [HX.out] at ht0
      show QY W t At Bt
      rw [<- htd];exact Qi6 ht0 k
     have ht2:QY wj t At Bt:=by rw [<- htd];exact Qi6 ht k
     have htH:=Lib.hid htd
     rw [e0,e1,e2,e3]
     clear e0 e1 e2 e3 htd ht x0 x1 x2 x3
     obtain ⟨W2,hW2⟩:∃ W2,wj.alloc (.cells #[.int .i64 t.ses,.int .i64 t.seq,.slice At t.rds.length cta,.slice Bt t.wrs.length ctb] 38)=W2:=⟨_,rfl⟩
     have hb2:Below wj.heap.size wj W2:=by rw [<- hW2];exact Qc _ _
     have hr2:W2.heap[wj.heap.size]? = some (.cells #[.int .i64 t.ses,.int .i64 t.seq,.slice At t.rds.length cta,.slice Bt t.wrs.length ctb] 38 (0,0)):=by rw [<- hW2];exact heap_alloc_new wj _
     rw [hW2]
     obtain ⟨pb,hpb⟩:∃ pb,wj.heap.size=pb:=⟨_,rfl⟩
     rw [hpb] at hr2 ⊢
     clear hW2
     have hT2:=Lib.hid (ht2.later hb2)
     have hI2:=Lib.hid (HI.out.later hb2)
     clear HI hb2 hpb ht2
     obtain ⟨fB,hfB⟩:∃ fB,Vi t=fB:=⟨_,rfl⟩
     obtain ⟨gB,hgB⟩:∃ gB,Qh t=gB:=⟨_,rfl⟩
     have hFe:Hid (Calls Tryz.prog 21 #[.agg #[.int .i64 t.ses,.int .i64 t.seq,.slice At t.rds.length cta,.slice Bt t.wrs.length ctb]] W2 fun e w'=>e = .returned (.bool fB)/\Below W2.heap.size W2 w'):=by
      have:=QlC t At Bt cta ctb W2 hT2.out
      rw [hfB] at this
      exact this
     refine hFe.out.mono ?_
     rintro e w3 ⟨rfl,hb3⟩
     replace hr2:=YB hr2 hb3
     have hT3:=Lib.hid (hT2.out.later hb3)
     have hI3:=Lib.hid (hI2.out.later hb3)
     have hFo:Hid (Calls Tryz.prog 22 #[.agg #[.int .i64 t.ses,.int .i64 t.seq,.slice At t.rds.length cta,.slice Bt t.wrs.length ctb]] w3 fun e w'=>e = .returned (.bool gB)/\Below w3.heap.size w3 w'):=by
      have:=YO t At Bt cta ctb w3 hT3.out
      rw [hgB] at this
      exact this
     clear hT2 hI2 hFe hb3 hfB
     have y0:w3.cell? ⟨pb,0,none⟩=some (.int .i64 t.ses):=by rw [cell_of_row w3 _ _ _ _ _ hr2];rfl
     have y1:w3.cell? ⟨pb,1,none⟩=some (.int .i64 t.seq):=by rw [cell_of_row w3 _ _ _ _ _ hr2];rfl
     have y2:w3.cell? ⟨pb,2,none⟩=some (.slice At t.rds.length cta):=by rw [cell_of_row w3 _ _ _ _ _ hr2];rfl
     have y3:w3.cell? ⟨pb,3,none⟩=some (.slice Bt t.wrs.length ctb):=by rw [cell_of_row w3 _ _ _ _ _ hr2];rfl
     cases fB
     case false =>
      have hE:=Lib.hid (Qa HB hI3.out.i.b0)
      clear hI3
      go_wp2
      go_ret3
      exact .inl ⟨rfl,hE.out⟩
     case true =>
      cases gB
      case false =>
       have hE:=Lib.hid hI3.out
       have hsk:Hid (YU l (k+1)=YU l k):=Ql8 HX.out (by show Qh (Qcj ta k)=false;rw [htH.out];exact hgB)
       clear hI3 hgB
       go_wp2_with (go_at_call 22;(with_reducible refine hFo.out.mono ?_);rintro e w4 ⟨rfl,hb4⟩)
       have hE4:=Lib.hid (hE.out.later hb4)
       clear y0 y1 y2 y3 hE
       go_roundw
       case rel=>exact ⟨k+1,hkH.out,by go_num,by rw [hsk.out];exact hE4⟩
       case measure=>have:=hkH.out;simp [intOf];omega
      case true =>
       have htk:Hid (YU l (k+1)=YU l k ++ [Qdz ⟨ta,At,Bt,cta,ctb⟩ k]):=Ql9 HX.out (by show Qh (Qcj ta k)=true;rw [htH.out];exact hgB)
       obtain ⟨i0,hi0,hz0,hz1,hz2⟩:=info_parts Qga
       have hln:=QdA l k
       clear hgB
       go_wp2_with (first
        | (go_at_call 22;(with_reducible refine hFo.out.mono ?_);rintro e w4 ⟨rfl,hb4⟩;have hI4:=Lib.hid (hI3.out.later hb4);have hrw:=hI4.out.r;replace y0:=keep hb4 y0;replace y1:=keep hb4 y1;replace y2:=keep hb4 y2;replace y3:=keep hb4 y3)
        | (at_builtin;refine wpList_append_own_at _ rfl _ _ 47 rfl W.heap.size 38 i0 _ 4 64 Tryz.underlying47 hi0 hz0 hz1 hz2 rfl (by decide) (.slice Ad (YU l k).length kd) (YU l k).length ((YU l k).flatMap Q6.vs) rfl (Qi hrw (Qc w4 _)) ⟨w4.heap.size,0,none⟩ 1 1 [.int .i64 t.ses,.int .i64 t.seq,.slice At t.rds.length cta,.slice Bt t.wrs.length ctb] rfl rfl (World.news_of_block (heap_alloc_new w4 _)) Ue (QA (by omega)) (by omega) (Nat.le_trans hI4.out.i.b0.size (Qc w4 _).size) ?_;intro v5 w5 HO5 hg5 _ hv5))
       have HP:=Lib.hid ((hI4.out.later (Qc w4 _)).push (a:=⟨t,At,Bt,cta,ctb⟩) ht0.out hg5 HO5 hv5)
       clear hI3 hI4 hFo HO5 hg5 hv5 hrw y0 y1 y2 y3 hi0 hz0 hz1 hz2
       go_roundw
       case rel =>
        refine ⟨k+1,hkH.out,by go_num,?_⟩
        rw [htk.out,Qdz]
        dsimp only
        rw [htH.out]
        exact HP
       case measure=>have:=hkH.out;simp [intOf];omega
    ·obtain rfl:k=l.length:=by omega
     obtain ⟨Ad,kd,rfl,hAll⟩:=HI.out.all
     have hE:Hid (Q3 W wj b c c.reps.length c.reps.length Yu F1/\Kl W wj F1 Ad (YU l l.length)/\Xp c (QS (YU l l.length))/\((QS (YU l l.length)).map Qd).Nodup):=⟨HI.out.i,hAll,Qma hfmH.out h14H.out,QhS l l.length⟩
     clear HI hlt hk hAll
     go_wp2
     go_ret3
     exact .inr ⟨W,b,F1,Ad,YU l l.length,kd,HB,rfl,hE.out⟩
end Go.Proofs.YtcldpmkhpmlcbaaGreatDoor
