/- part -/
import Derived.Test.YtcldpmkhpmlcbaaGreatDoorWBeg17
import Derived.Test.YtcldpmkhpmlcbaaGreatDoorWRun17
import Derived.Test.YtcldpmkhpmlcbaaGreatDoorLawGAg17
import Derived.Test.YtcldpmkhpmlcbaaGreatDoorWRep17
import Derived.Test.YtcldpmkhpmlcbaaGreatDoorK8
import Derived.Test.YtcldpmkhpmlcbaaGreatDoorJ6
import Derived.BigQuiet
import Derived.Deep.CutBlock
set_option linter.unusedVariables false
set_option linter.unusedSimpArgs false
namespace Go.Proofs.YtcldpmkhpmlcbaaGreatDoor
open Go.RowKit Go.Shelf Go.Maps
def Qnq:Yl:=⟨⟨0,0,[],[]⟩,0⟩
instance:Inhabited Yl:=⟨Qnq⟩
theorem Qbx:∀ l:List Q6,(l.flatMap Q6.vs).length=l.length * 4
 | []=>rfl
 | x :: l=>by rw [List.flatMap_cons,List.length_append,Qbx l,List.length_cons,Nat.succ_mul];show 4+_=_;omega
theorem Vr (l:List Q6):∀ u ∈ l.flatMap Q6.vs,u.oneCell'=true:=fun u hu=>by
 obtain ⟨a,_,hu⟩:=List.mem_flatMap.1 hu
 exact Ue u hu
theorem QeR {w:World} {base b n size:Nat} {e:TypeId} {v:Value} {xs:List Value} (h:w.ownsRow base e size v n xs) (hb:b<=base):w.ownsRow b e size v n xs:=by
 refine ⟨h.1,?_⟩
 rcases h.2 with q2 | ⟨g,cap,cur,e,hg,r⟩
 ·exact .inl q2
 ·exact .inr ⟨g,cap,cur,e,Nat.le_trans hb hg,r⟩
theorem Qc5 {α:Type} {f:α->List Value} {n:Nat} (hf:∀ a,(f a).length=n) {w:World} {base cap k:Nat} {e:TypeId} {A:Option Addr} {l:List α} (hk:l.length=k) (h:w.ownsRow base e n (.slice A k cap) k (l.flatMap f)) :
  (A=none/\cap=0/\k=0) \/ ∃ g o,A=some ⟨g,o,none⟩/\k<=cap/\∀ wz,Below w.heap.size w wz->∀ j u,(l.flatMap f)[j]? = some u->wz.cell? ⟨g,o+j,none⟩=some u:=by
 subst hk
 rcases id h.2 with ⟨e1,h0⟩ | ⟨g,cap',cur,e1,hfr,hh,hn,_⟩
 ·injection e1 with e1 e2 e3
  exact .inl ⟨e1,e3,h0⟩
 ·injection e1 with e1 e2 e3
  subst e1 e3
  refine .inr ⟨g,0,rfl,hn,fun wz hb j u hu=>?_⟩
  rw [Nat.zero_add]
  exact keep hb (Qnp hf h j u hu)
theorem Qc6 {α:Type} {f:α->List Value} {n:Nat} (hf:∀ a,(f a).length=n) {l:List α} {wz:World} {g o:Nat} (h:∀ j u,(l.flatMap f)[j]? = some u->wz.cell? ⟨g,o+j,none⟩=some u) (m:Nat):∀ j u,((l.take m).flatMap f)[j]? = some u->wz.cell? ((⟨g,o,none⟩:Addr).add j)=some u:=fun j u hu=>by
 rw [Qgh hf,List.getElem?_take] at hu
 split at hu
 ·rw [Go.WideShapes.add_plain];exact h j u hu
 ·cases hu
theorem Qc7 {α:Type} {f:α->List Value} {n:Nat} (hf:∀ a,(f a).length=n) {l:List α} {wz:World} {g o:Nat} (h:∀ j u,(l.flatMap f)[j]? = some u->wz.cell? ⟨g,o+j,none⟩=some u) (m o':Nat) (ho:o'=o+m * n):∀ j u,((l.drop m).flatMap f)[j]? = some u->wz.cell? ((⟨g,o',none⟩:Addr).add j)=some u:=fun j u hu=>by
 rw [Qgi hf,List.getElem?_drop] at hu
 rw [Go.WideShapes.add_plain]
 have:=h _ u hu
 rw [ho,Nat.add_assoc];exact this
theorem Qcs:∀ l:List Yl,(l.flatMap JN).length=l.length * 1
 | []=>rfl
 | x :: l=>by rw [List.flatMap_cons,List.length_append,Qcs l,List.length_cons];show 1+_=_;omega
theorem Vs (l:List Yl):∀ u ∈ l.flatMap JN,u.oneCell'=true:=fun u hu=>by
 obtain ⟨a,_,hu⟩:=List.mem_flatMap.1 hu
 rw [List.mem_singleton.1 hu];rfl
theorem Jp.ins {w0 w wz:World} {B:Nat} {ov sv ov' sv':Value} {ol:List Q6} {O:List Yl} (h:Jp w0 w B ov sv ol O) {m n k1 k2:Nat} (hn:ol.length=n) (hm:m<=n) {a:Q6} {x:Yl} (hax:a.t=x.t) (ha:QY w0 a.t a.A a.B)
  (hr:wz.ownsRow B 38 4 ov' k1 ((ol.take m).flatMap Q6.vs ++ a.vs ++ (ol.drop m).flatMap Q6.vs)) (hk1:k1=n+1)
  (hs:wz.ownsRow B 39 1 sv' k2 ((O.take m).flatMap JN ++ JN x ++ (O.drop m).flatMap JN)) (hk2:k2=n+1):Jp w0 wz B ov' sv' (ol.take m ++ a :: ol.drop m) (O.take m ++ x :: O.drop m):=by
 subst hk1 hk2
 have hl:=h.l
 have e1:(ol.take m ++ a :: ol.drop m).length=n+1:=by rw [List.length_append,List.length_cons,List.length_take,List.length_drop];omega
 have e2:(O.take m ++ x :: O.drop m).length=n+1:=by rw [List.length_append,List.length_cons,List.length_take,List.length_drop];omega
 refine ⟨?_,?_,by rw [e1,e2],?_,fun b hb=>?_⟩
 ·rw [e1,List.flatMap_append,List.flatMap_cons, <- List.append_assoc];exact hr
 ·rw [e2,List.flatMap_append,List.flatMap_cons, <- List.append_assoc];exact hs
 ·have he:=h.e
  simp only [QS,Kz,List.map_append,List.map_cons,List.map_take,List.map_drop,hax] at he ⊢
  rw [he]
 ·rcases List.mem_append.1 hb with hb | hb
  ·exact h.t b (List.mem_of_mem_take hb)
  ·rcases List.mem_cons.1 hb with rfl | hb
   ·exact ha
   ·exact h.t b (List.mem_of_mem_drop hb)
theorem QoY (O:List Yl) (y:Nat × Qp):∃ m,m<=O.length/\(∀ x ∈ O.take m,Xx x.key y)/\∀ x,O[m]? = some x->¬ Xx x.key y:=by
 induction O with
 | nil=>exact ⟨0,Nat.le_refl _,(fun x hx=>by cases hx),(fun x hx=>by cases hx)⟩
 | cons a O ih =>
  by_cases h:Xx a.key y
  ·obtain ⟨m,h1,h2,h3⟩:=ih
   refine ⟨m+1,Nat.succ_le_succ h1,fun x hx=>?_,fun x hx=>h3 x hx⟩
   rw [List.take_succ_cons] at hx
   rcases List.mem_cons.1 hx with rfl | hx
   ·exact h
   ·exact h2 x hx
  ·exact ⟨0,Nat.zero_le _,(fun x hx=>by cases hx),(fun x hx=>by
    have:a=x:=by simpa using hx
    rw [<- this];exact h)⟩
theorem Qc8 {P:Program} {md:Region.Mode} {ops:Array Oper} {Q:Exit->Act->World->Prop} {S S':World->Prop} (hs:∀ w,S' w->S w):∀ (fuel:Nat) (listed:Array Bool) (a:Act) (w:World),wpAnyH P md ops Q S' fuel listed a w->wpAnyH P md ops Q S fuel listed a w
 | 0,_,_,_,h=>h
 | fuel+1,_,_,_,h=>⟨h.1,fun i hi=>wpOp_mono (fun a' w' h'=>⟨hs _ h'.1,Qc8 hs fuel _ a' w' h'.2⟩) (h.2 i hi)⟩
set_option maxRecDepth 100000 in
set_option maxHeartbeats 8000000 in
theorem QiE (c:Ql) (l:List Q6) (pk:List Km) (A A' S P:Option Addr) (ca cb cs cp:Nat) (w:World) (h:Z9 w c A A') (hl:Qau w S l) (hn:l.length<=9223372036854775807) (hpk:K4 w P pk) (hpn:pk.length<=9223372036854775807) (hT:XT w) :
  Calls Tryz.prog 5 #[.agg #[.slice A c.reps.length ca,.slice A' c.bnds.length cb],.slice S l.length cs,.slice P pk.length cp] w fun e w'=>e = .returned (.bool true)/\Below w.heap.size w w':=by
 obtain ⟨W,eW,HB,c0,c1⟩:=Y5 w (.slice A c.reps.length ca) (.slice A' c.bnds.length cb) 25
 have hW:=Lib.hid (h.later HB)
 have hTW:=Lib.hid (hT.later HB)
 have hPW:=Lib.hid (hpk.later HB)
 have hAw:Hid (∀ wz,Below W.heap.size W wz->Calls Tryz.prog 9 #[] wz fun e w'=>e = .returned (.bool true)/\Below wz.heap.size wz w'):=fun wz hb=>Qob wz (hTW.out.later hb)
 have hBg:=Lib.hid (Qnl c l A A' S ca cb cs W hW.out (hl.later HB) hn hTW.out)
 have hpnH:=Lib.hid hpn
 clear h hl hT hn hpk hpn
 go_enter Tryz.func5,Tryz.ntmps5
 go_wp2_with fail
 refine hBg.out.mono ?_
 rintro e w1 (⟨rfl,hb1⟩ | ⟨w0,b,F,S',ds,ca',hb0,rfl,hI,hAll,hp,hnd⟩)
 ·clear hBg hPW
  go_wp2_with (go_at_call 9;(with_reducible refine (hAw.out _ hb1).mono ?_);rintro e w2 ⟨rfl,hb0⟩;replace hb1:=Qa hb1 hb0;clear hb0)
  go_ret
  exact ⟨rfl,Qa HB hb1⟩
 have hb1:Below W.heap.size W w1:=Qa hb0 hI.b0
 by_cases h100:100<pk.length
 ·have q1:decide ((100:Int)<(pk.length:Int))=true:=by rw [decide_eq_true_iff];omega
  clear hBg hPW hI hAll hp hnd h100
  go_wp2_with (go_at_call 9;(with_reducible refine (hAw.out _ hb1).mono ?_);rintro e w2 ⟨rfl,hb2⟩;replace hb1:=Qa hb1 hb2;clear hb2)
  go_ret
  exact ⟨rfl,Qa HB hb1⟩
 have q1:decide ((100:Int)<(pk.length:Int))=false:=by rw [decide_eq_false_iff_not];omega
 have hpH:=Lib.hid hp
 have hndH:=Lib.hid hnd
 have hRun:Hid (∀ wz,Below w1.heap.size w1 wz->Calls Tryz.prog 15 #[.pointer (some ⟨b,0,none⟩),.slice S' ds.length ca',.slice P pk.length cp] wz fun e w'=>e = .returned (.tuple #[])/\∃ W2 F2,Q3 w0 w' b c c.reps.length c.reps.length W2 F2/\Kl w0 w' F2 S' ds/\UB c (QS ds) W2):=fun wz hb=>by
  have hA1:=hAll.step (Zt.below hb)
  refine (QoO (hI.later hb) hpH.out hA1 (hPW.out.later hb0) (by omega)).mono ?_
  rintro e w' ⟨rfl,W2,F2,h1,h2,h3⟩
  exact ⟨rfl,W2,F2,h1,hA1.step h2,h3⟩
 have hb11:Below w1.heap.size w1 w1:=Below.refl _ _
 clear hBg hPW hI hAll hp hnd h100
 go_wp2_with (first
  | (go_at_call 9;(with_reducible refine (hAw.out _ hb1).mono ?_);rintro e w2 ⟨rfl,hb2⟩;replace hb11:=Qa hb11 hb2;replace hb1:=Qa hb1 hb2;clear hb2)
  | (go_at_call 15;(with_reducible refine (hRun.out _ hb11).mono ?_);rintro e w3 ⟨rfl,W2,F2,hI3,hA3,hE3⟩))
 have hI3H:=Lib.hid hI3
 have hA3H:=Lib.hid hA3
 have hE3H:=Lib.hid hE3
 have hb03:=Lib.hid (Qa hb0 hI3.b0)
 clear hI3 hA3 hE3 hRun hAw hb1 hb11
 obtain ⟨Bo,hBo⟩:∃ B,w3.heap.size=B:=⟨_,rfl⟩
 have hBoH:=Lib.hid hBo
 have HO0:Hid (Jp w0 w3 Bo (.slice none 0 0) (.slice none 0 0) [] []/\Jo c (QS ds) W2 0 []/\Below w3.heap.size w3 w3):=⟨Jp.start _ _ _,Jo.start,Below.refl _ _⟩
 clear hBo
 go_loopw [10,11,12] (fun ov sv i wr=>∃ (k:Nat) (ol:List Q6) (O:List Yl),k<=ds.length/\i = .int .i64 k/\Hid (Jp w0 wr Bo ov sv ol O/\Jo c (QS ds) W2 k O/\Below w3.heap.size w3 wr)) (fun _ _ i _=>ds.length-(intOf i).toNat)
 case atStart=>exact ⟨0,[],[],Nat.zero_le _,rfl,HO0⟩
 case round =>
  obtain ⟨k,ol,O,hk,rfl,HI⟩:=hrel
  obtain ⟨wi,rfl⟩:∃ wi:World,wi=wr:=⟨_,rfl⟩
  clear HO0
  have hw4:=HI.out.2.2
  have hw4H:=Lib.hid hw4
  by_cases hlt:k<ds.length
  ·obtain ⟨bt,ot,a,rfl,x0,x1,x2,x3,ht,_,_,HX⟩:=(hA3H.out.step (Zt.below hw4)).at' hlt
   have e0:=keep (Qa hb03.out hw4) c0
   have e1:=keep (Qa hb03.out hw4) c1
   have hki:(k:Int)<(ds.length:Int):=by omega
   have hk0:(0:Int)<=(k:Int):=by omega
   have hkH:=Lib.hid hlt
   have hkb:k<14:=by have:=hpH.out.l;rw [QS,List.length_map] at this;omega
   have hmem:=Qci hlt HX
   have htk:Hid ((QS ds)[k]? = some a.t):=by
    have h1:=HX.out
    rw [List.getD_eq_getElem?_getD,List.getElem?_eq_getElem hlt] at h1
    show _=_
    rw [QS,List.getElem?_map,List.getElem?_eq_getElem hlt, <- h1];rfl
   obtain ⟨yes,s,hys⟩:=hE3H.out.agree hpH.out hmem
   have hysH:=Lib.hid hys
   have hmemH:=Lib.hid hmem
   have hfT:=Lib.hid (hpH.out.f _ hmem)
   obtain ⟨t,At,Bt,cta,ctb⟩:=a
   dsimp only at x0 x1 x2 x3 ht hys htk hmemH hfT hysH
   obtain ⟨gs,hgs⟩:∃ gs,Qf c t=gs:=⟨_,rfl⟩
   have hGr:Hid (∀ wz,Below wi.heap.size wi wz->Calls Tryz.prog 16 #[.agg #[.slice A c.reps.length ca,.slice A' c.bnds.length cb],.agg #[.int .i64 t.ses,.int .i64 t.seq,.slice At t.rds.length cta,.slice Bt t.wrs.length ctb]] wz (QgF wz gs)):=fun wz hb=>by
    have h6:=Xo hfT.out
    have:=Qfe c t A A' At Bt ca cb cta ctb wz (hW.out.later (Qa (Qa hb03.out hw4) hb)) (ht.later (Qa (Qa hI3H.out.b0 hw4) hb)) (by omega) (by omega) (by have:=(ZI hpH.out.c).2;omega)
    rw [hgs] at this
    exact this
   have hgs0:Hid (0<gs.length):=by rw [<- hgs];exact Qiy hpH.out.c hfT.out
   obtain ⟨y,hy0,hyn,hym⟩:=Qnm hpH.out.c (t:=t) (k:=0) (by rw [hgs];exact hgs0.out)
   have hy:Hid (gs.getD 0 0=(y:Int)):=by rw [<- hgs];exact hy0
   have hDec:Hid (∀ wz,Below w3.heap.size w3 wz->Calls Tryz.prog 13 #[.pointer (some ⟨F2.ps y,0,none⟩),.agg #[.int .i64 t.ses,.int .i64 t.seq]] wz fun e w'=>e = .returned (.tuple #[.bool yes,.int .u64 (s:Int),.bool true])/\Below wz.heap.size wz w'):=fun wz hb=>hE3H.out.dec hpH.out hI3H.out hmemH.out hyn (hysH.out y hym) hb
   obtain ⟨_,_,m2,_⟩:=(hI3H.out.later hw4).cs
   obtain ⟨Am,km,eM,hM⟩:=(hI3H.out.later hw4).mach
   obtain ⟨bm,om,rfl,_,p0⟩:=hM y hyn
   rw [eM] at m2
   have y0:(0:Int)<=(y:Int):=by omega
   have y1:(y:Int)<(c.reps.length:Int):=by omega
   have gl0:(0:Int)<(gs.length:Int):=by have:=hgs0.out;omega
   have gl1:0<gs.length:=hgs0.out
   have gl2:¬ gs=[]:=fun e=>by rw [e] at gl1;exact absurd gl1 (Nat.lt_irrefl _)
   have hS0:Hid (∀ w',Below wi.heap.size wi w'->(w'.cell? ⟨b,2,none⟩=some (.slice (some ⟨bm,om,none⟩) c.reps.length km)/\w'.cell? ⟨bm,om+y,none⟩=some (.pointer (some ⟨F2.ps y,0,none⟩))/\w'.cell? ⟨w.heap.size,0,none⟩=some (.slice A c.reps.length ca)/\w'.cell? ⟨w.heap.size,1,none⟩=some (.slice A' c.bnds.length cb)/\w'.cell? ⟨bt,ot+k * 4,none⟩=some (.int .i64 t.ses)/\w'.cell? ⟨bt,ot+k * 4+1,none⟩=some (.int .i64 t.seq)/\w'.cell? ⟨bt,ot+k * 4+2,none⟩=some (.slice At t.rds.length cta)/\w'.cell? ⟨bt,ot+k * 4+3,none⟩=some (.slice Bt t.wrs.length ctb)/\Below wi.heap.size wi w')):=fun w' hb=>⟨keep hb m2,keep hb p0,keep hb e0,keep hb e1,keep hb x0,keep hb x1,keep hb x2,keep hb x3,hb⟩
   have ht0:Hid (QY w0 t At Bt):=ht
   clear hlt hk hmem hys hgs ht hM eM hw4 hy0 hyn hym
   go_wp2
   go_cut [13,14,15] (fun s1 s2 s3 wx=>s1 = .bool yes/\s2 = .int .u64 (s:Int)/\s3 = .bool true/\Below wi.heap.size wi wx)
   case first =>
    have hbD:=Qb (Below.refl wi.heap.size wi)
    refine wp_region_noPanic ?_
    refine wp_region_held_drew (S:=(fun w'=>w'.cell? ⟨b,2,none⟩=some (.slice (some ⟨bm,om,none⟩) c.reps.length km)/\w'.cell? ⟨bm,om+y,none⟩=some (.pointer (some ⟨F2.ps y,0,none⟩))/\w'.cell? ⟨w.heap.size,0,none⟩=some (.slice A c.reps.length ca)/\w'.cell? ⟨w.heap.size,1,none⟩=some (.slice A' c.bnds.length cb)/\w'.cell? ⟨bt,ot+k * 4,none⟩=some (.int .i64 t.ses)/\w'.cell? ⟨bt,ot+k * 4+1,none⟩=some (.int .i64 t.seq)/\w'.cell? ⟨bt,ot+k * 4+2,none⟩=some (.slice At t.rds.length cta)/\w'.cell? ⟨bt,ot+k * 4+3,none⟩=some (.slice Bt t.wrs.length ctb)/\Below wi.heap.size wi w')) (by kernel_rfl) (hS0.out _ hbD) (fun hHeld=>?_)
    refine wpAnyH_take (i:=0) (oi:=?o0_1) (v:=?v0_1) ?hi0_1 (by kernel_rfl) (by kernel_rfl) (by kernel_rfl) ?hq0_1 (Or.inl ⟨?hg0_1,?hy0_1⟩) hHeld ?rest0_1
    case hi0_1=>(simp only [List.getElem?_toArray,List.getElem?_cons_succ,List.getElem?_cons_zero];rfl)
    case hq0_1=>exact fun _ _ _ h=>h
    case hg0_1=>rfl
    case hy0_1=>(intro w hSw;(try dsimp only at hSw);go_simp;(try with_reducible rfl))
    (try simp only [Act.put,List.setIfInBounds_toArray,List.set_cons_zero,List.set_cons_succ])
    refine wpAnyH_take (i:=1) (oi:=?o1_2) (v:=?v1_2) ?hi1_2 (by kernel_rfl) (by kernel_rfl) (by kernel_rfl) ?hq1_2 (Or.inl ⟨?hg1_2,?hy1_2⟩) hHeld ?rest1_2
    case hi1_2=>(simp only [List.getElem?_toArray,List.getElem?_cons_succ,List.getElem?_cons_zero];rfl)
    case hq1_2=>exact fun _ _ _ h=>h
    case hg1_2=>rfl
    case hy1_2=>(intro w hSw;(try dsimp only at hSw);go_simp;(try with_reducible rfl))
    (try simp only [Act.put,List.setIfInBounds_toArray,List.set_cons_zero,List.set_cons_succ])
    refine wpAnyH_take (i:=2) (oi:=?o2_3) (v:=?v2_3) ?hi2_3 (by kernel_rfl) (by kernel_rfl) (by kernel_rfl) ?hq2_3 (Or.inl ⟨?hg2_3,?hy2_3⟩) hHeld ?rest2_3
    case hi2_3=>(simp only [List.getElem?_toArray,List.getElem?_cons_succ,List.getElem?_cons_zero];rfl)
    case hq2_3=>exact fun _ _ _ h=>h
    case hg2_3=>rfl
    case hy2_3=>(intro w hSw;(try dsimp only at hSw);go_simp;(try with_reducible rfl))
    (try simp only [Act.put,List.setIfInBounds_toArray,List.set_cons_zero,List.set_cons_succ])
    refine wpAnyH_take (i:=3) (oi:=?o3_4) (v:=?v3_4) ?hi3_4 (by kernel_rfl) (by kernel_rfl) (by kernel_rfl) ?hq3_4 (Or.inl ⟨?hg3_4,?hy3_4⟩) hHeld ?rest3_4
    case hi3_4=>(simp only [List.getElem?_toArray,List.getElem?_cons_succ,List.getElem?_cons_zero];rfl)
    case hq3_4=>exact fun _ _ _ h=>h
    case hg3_4=>rfl
    case hy3_4=>(intro w hSw;(try dsimp only at hSw);go_simp;(try with_reducible rfl))
    (try simp only [Act.put,List.setIfInBounds_toArray,List.set_cons_zero,List.set_cons_succ])
    refine wpAnyH_take (i:=4) (oi:=?o4_5) (v:=?v4_5) ?hi4_5 (by kernel_rfl) (by kernel_rfl) (by kernel_rfl) ?hq4_5 (Or.inl ⟨?hg4_5,?hy4_5⟩) hHeld ?rest4_5
    case hi4_5=>(simp only [List.getElem?_toArray,List.getElem?_cons_succ,List.getElem?_cons_zero];rfl)
    case hq4_5=>exact fun _ _ _ h=>h
    case hg4_5=>rfl
    case hy4_5=>(intro w hSw;(try dsimp only at hSw);go_simp;(try with_reducible rfl))
    (try simp only [Act.put,List.setIfInBounds_toArray,List.set_cons_zero,List.set_cons_succ])
    refine wpAnyH_take (i:=5) (oi:=?o5_6) (v:=?v5_6) ?hi5_6 (by kernel_rfl) (by kernel_rfl) (by kernel_rfl) ?hq5_6 (Or.inl ⟨?hg5_6,?hy5_6⟩) hHeld ?rest5_6
    case hi5_6=>(simp only [List.getElem?_toArray,List.getElem?_cons_succ,List.getElem?_cons_zero];rfl)
    case hq5_6=>exact fun _ _ _ h=>h
    case hg5_6=>rfl
    case hy5_6=>(intro w hSw;(try dsimp only at hSw);go_simp;(try with_reducible rfl))
    (try simp only [Act.put,List.setIfInBounds_toArray,List.set_cons_zero,List.set_cons_succ])
    refine wpAnyH_take (i:=6) (oi:=?o6_7) (v:=?v6_7) ?hi6_7 (by kernel_rfl) (by kernel_rfl) (by kernel_rfl) ?hq6_7 (Or.inl ⟨?hg6_7,?hy6_7⟩) hHeld ?rest6_7
    case hi6_7=>(simp only [List.getElem?_toArray,List.getElem?_cons_succ,List.getElem?_cons_zero];rfl)
    case hq6_7=>exact fun _ _ _ h=>h
    case hg6_7=>rfl
    case hy6_7=>(intro w hSw;(try dsimp only at hSw);go_simp;(try with_reducible rfl))
    (try simp only [Act.put,List.setIfInBounds_toArray,List.set_cons_zero,List.set_cons_succ])
    refine wpAnyH_take (i:=7) (oi:=?o7_8) (v:=?v7_8) ?hi7_8 (by kernel_rfl) (by kernel_rfl) (by kernel_rfl) ?hq7_8 (Or.inl ⟨?hg7_8,?hy7_8⟩) hHeld ?rest7_8
    case hi7_8=>(simp only [List.getElem?_toArray,List.getElem?_cons_succ,List.getElem?_cons_zero];rfl)
    case hq7_8=>exact fun _ _ _ h=>h
    case hg7_8=>rfl
    case hy7_8=>(intro w hSw;(try dsimp only at hSw);go_simp;(try with_reducible rfl))
    (try simp only [Act.put,List.setIfInBounds_toArray,List.set_cons_zero,List.set_cons_succ])
    refine wpAnyH_take (i:=8) (oi:=?o8_9) (v:=?v8_9) ?hi8_9 (by kernel_rfl) (by kernel_rfl) (by kernel_rfl) ?hq8_9 (Or.inl ⟨?hg8_9,?hy8_9⟩) hHeld ?rest8_9
    case hi8_9=>(simp only [List.getElem?_toArray,List.getElem?_cons_succ,List.getElem?_cons_zero];rfl)
    case hq8_9=>exact fun _ _ _ h=>h
    case hg8_9=>rfl
    case hy8_9=>(intro w hSw;(try dsimp only at hSw);go_simp;(try with_reducible rfl))
    (try simp only [Act.put,List.setIfInBounds_toArray,List.set_cons_zero,List.set_cons_succ])
    refine wpAnyH_take (i:=14) (oi:=?o14_10) (v:=?v14_10) ?hi14_10 (by kernel_rfl) (by kernel_rfl) (by kernel_rfl) ?hq14_10 (Or.inl ⟨?hg14_10,?hy14_10⟩) hHeld ?rest14_10
    case hi14_10=>(simp only [List.getElem?_toArray,List.getElem?_cons_succ,List.getElem?_cons_zero];rfl)
    case hq14_10=>exact fun _ _ _ h=>h
    case hg14_10=>rfl
    case hy14_10=>(intro w hSw;(try dsimp only at hSw);go_simp;(try with_reducible rfl))
    (try simp only [Act.put,List.setIfInBounds_toArray,List.set_cons_zero,List.set_cons_succ])
    refine wpAnyH_take (i:=15) (oi:=?o15_11) (v:=?v15_11) ?hi15_11 (by kernel_rfl) (by kernel_rfl) (by kernel_rfl) ?hq15_11 (Or.inl ⟨?hg15_11,?hy15_11⟩) hHeld ?rest15_11
    case hi15_11=>(simp only [List.getElem?_toArray,List.getElem?_cons_succ,List.getElem?_cons_zero];rfl)
    case hq15_11=>exact fun _ _ _ h=>h
    case hg15_11=>rfl
    case hy15_11=>(intro w hSw;(try dsimp only at hSw);go_simp;(try with_reducible rfl))
    (try simp only [Act.put,List.setIfInBounds_toArray,List.set_cons_zero,List.set_cons_succ])
    refine wpAnyH_take (i:=16) (oi:=?o16_12) (v:=?v16_12) ?hi16_12 (by kernel_rfl) (by kernel_rfl) (by kernel_rfl) ?hq16_12 (Or.inl ⟨?hg16_12,?hy16_12⟩) hHeld ?rest16_12
    case hi16_12=>(simp only [List.getElem?_toArray,List.getElem?_cons_succ,List.getElem?_cons_zero];rfl)
    case hq16_12=>exact fun _ _ _ h=>h
    case hg16_12=>rfl
    case hy16_12=>(intro w hSw;(try dsimp only at hSw);go_simp;(try with_reducible rfl))
    (try simp only [Act.put,List.setIfInBounds_toArray,List.set_cons_zero,List.set_cons_succ])
    refine wpAnyH_take (i:=17) (oi:=?o17_13) (v:=?v17_13) ?hi17_13 (by kernel_rfl) (by kernel_rfl) (by kernel_rfl) ?hq17_13 (Or.inl ⟨?hg17_13,?hy17_13⟩) hHeld ?rest17_13
    case hi17_13=>(simp only [List.getElem?_toArray,List.getElem?_cons_succ,List.getElem?_cons_zero];rfl)
    case hq17_13=>exact fun _ _ _ h=>h
    case hg17_13=>rfl
    case hy17_13=>(intro w hSw;(try dsimp only at hSw);go_simp;(try with_reducible rfl))
    (try simp only [Act.put,List.setIfInBounds_toArray,List.set_cons_zero,List.set_cons_succ])
    refine wpAnyH_take (i:=18) (oi:=?o18_14) (v:=?v18_14) ?hi18_14 (by kernel_rfl) (by kernel_rfl) (by kernel_rfl) ?hq18_14 (Or.inl ⟨?hg18_14,?hy18_14⟩) hHeld ?rest18_14
    case hi18_14=>(simp only [List.getElem?_toArray,List.getElem?_cons_succ,List.getElem?_cons_zero];rfl)
    case hq18_14=>exact fun _ _ _ h=>h
    case hg18_14=>rfl
    case hy18_14=>(intro w hSw;(try dsimp only at hSw);go_simp;(try with_reducible rfl))
    (try simp only [Act.put,List.setIfInBounds_toArray,List.set_cons_zero,List.set_cons_succ])
    refine wpAnyH_ready (rs:=[9]) (by kernel_rfl) (by simp) ?_
    refine AllReadyH.cons (o:=?p9_27) ?ho9_27 (fun KK hK=>?step9_27) ?more9_27
    case ho9_27=>(simp only [List.getElem?_toArray,List.getElem?_cons_succ,List.getElem?_cons_zero];rfl)
    case step9_27 =>
     go_simp
     (go_at_call 16;(with_reducible refine (hGr.out _ hbD).mono ?_);rintro e w5 ⟨Ag,cg,rfl,hg5,hb5⟩)
     have hb15:=Qa hbD hb5
     obtain ⟨bg,og,xv,rfl,g0,hgx⟩:=hg5.at' hgs0.out
     rw [Nat.add_zero] at g0
     obtain rfl:xv=(y:Int):=by rw [<- hgx.out];exact hy.out
     (try go_wp2_with fail)
     refine hK.out _ _ (hS0.out _ hb15) (fun hH2=>?_)
     clear hHeld hK KK
     have hHeld:=hH2
     clear hH2
     (try simp only [Act.put,List.setIfInBounds_toArray,List.set_cons_zero,List.set_cons_succ])
     have hS1:Hid (∀ w',Below w5.heap.size w5 w'->(fun w'=>w'.cell? ⟨b,2,none⟩=some (.slice (some ⟨bm,om,none⟩) c.reps.length km)/\w'.cell? ⟨bm,om+y,none⟩=some (.pointer (some ⟨F2.ps y,0,none⟩))/\w'.cell? ⟨w.heap.size,0,none⟩=some (.slice A c.reps.length ca)/\w'.cell? ⟨w.heap.size,1,none⟩=some (.slice A' c.bnds.length cb)/\w'.cell? ⟨bt,ot+k * 4,none⟩=some (.int .i64 t.ses)/\w'.cell? ⟨bt,ot+k * 4+1,none⟩=some (.int .i64 t.seq)/\w'.cell? ⟨bt,ot+k * 4+2,none⟩=some (.slice At t.rds.length cta)/\w'.cell? ⟨bt,ot+k * 4+3,none⟩=some (.slice Bt t.wrs.length ctb)/\w'.cell? ⟨bg,og,none⟩=some (.int .i64 (y:Int))/\Below w5.heap.size w5 w') w'):=fun w' hb=>⟨(hS0.out _ (Qa hb15 hb)).1,(hS0.out _ (Qa hb15 hb)).2.1,(hS0.out _ (Qa hb15 hb)).2.2.1,(hS0.out _ (Qa hb15 hb)).2.2.2.1,(hS0.out _ (Qa hb15 hb)).2.2.2.2.1,(hS0.out _ (Qa hb15 hb)).2.2.2.2.2.1,(hS0.out _ (Qa hb15 hb)).2.2.2.2.2.2.1,(hS0.out _ (Qa hb15 hb)).2.2.2.2.2.2.2.1,keep hb g0,hb⟩
     refine Qc8 (S':=(fun w'=>w'.cell? ⟨b,2,none⟩=some (.slice (some ⟨bm,om,none⟩) c.reps.length km)/\w'.cell? ⟨bm,om+y,none⟩=some (.pointer (some ⟨F2.ps y,0,none⟩))/\w'.cell? ⟨w.heap.size,0,none⟩=some (.slice A c.reps.length ca)/\w'.cell? ⟨w.heap.size,1,none⟩=some (.slice A' c.bnds.length cb)/\w'.cell? ⟨bt,ot+k * 4,none⟩=some (.int .i64 t.ses)/\w'.cell? ⟨bt,ot+k * 4+1,none⟩=some (.int .i64 t.seq)/\w'.cell? ⟨bt,ot+k * 4+2,none⟩=some (.slice At t.rds.length cta)/\w'.cell? ⟨bt,ot+k * 4+3,none⟩=some (.slice Bt t.wrs.length ctb)/\w'.cell? ⟨bg,og,none⟩=some (.int .i64 (y:Int))/\Below w5.heap.size w5 w')) (fun w' h=>hS0.out _ (Qa hb15 h.2.2.2.2.2.2.2.2.2)) _ _ _ _ ?_
     clear hHeld
     have hHeld:=hS1.out _ (Below.refl _ _)
     refine wpAnyH_take (i:=10) (oi:=?o10_15) (v:=?v10_15) ?hi10_15 (by kernel_rfl) (by kernel_rfl) (by kernel_rfl) ?hq10_15 (Or.inl ⟨?hg10_15,?hy10_15⟩) hHeld ?rest10_15
     case hi10_15=>(simp only [List.getElem?_toArray,List.getElem?_cons_succ,List.getElem?_cons_zero];rfl)
     case hq10_15=>exact fun _ _ _ h=>h
     case hg10_15=>rfl
     case hy10_15=>(intro w hSw;(try dsimp only at hSw);go_simp;(try with_reducible rfl))
     (try simp only [Act.put,List.setIfInBounds_toArray,List.set_cons_zero,List.set_cons_succ])
     refine wpAnyH_take (i:=11) (oi:=?o11_16) (v:=?v11_16) ?hi11_16 (by kernel_rfl) (by kernel_rfl) (by kernel_rfl) ?hq11_16 (Or.inl ⟨?hg11_16,?hy11_16⟩) hHeld ?rest11_16
     case hi11_16=>(simp only [List.getElem?_toArray,List.getElem?_cons_succ,List.getElem?_cons_zero];rfl)
     case hq11_16=>exact fun _ _ _ h=>h
     case hg11_16=>rfl
     case hy11_16=>(intro w hSw;(try dsimp only at hSw);go_simp;(try with_reducible rfl))
     (try simp only [Act.put,List.setIfInBounds_toArray,List.set_cons_zero,List.set_cons_succ])
     refine wpAnyH_take (i:=12) (oi:=?o12_17) (v:=?v12_17) ?hi12_17 (by kernel_rfl) (by kernel_rfl) (by kernel_rfl) ?hq12_17 (Or.inl ⟨?hg12_17,?hy12_17⟩) hHeld ?rest12_17
     case hi12_17=>(simp only [List.getElem?_toArray,List.getElem?_cons_succ,List.getElem?_cons_zero];rfl)
     case hq12_17=>exact fun _ _ _ h=>h
     case hg12_17=>rfl
     case hy12_17=>(intro w hSw;(try dsimp only at hSw);go_simp;(try with_reducible rfl))
     (try simp only [Act.put,List.setIfInBounds_toArray,List.set_cons_zero,List.set_cons_succ])
     refine wpAnyH_take (i:=13) (oi:=?o13_18) (v:=?v13_18) ?hi13_18 (by kernel_rfl) (by kernel_rfl) (by kernel_rfl) ?hq13_18 (Or.inl ⟨?hg13_18,?hy13_18⟩) hHeld ?rest13_18
     case hi13_18=>(simp only [List.getElem?_toArray,List.getElem?_cons_succ,List.getElem?_cons_zero];rfl)
     case hq13_18=>exact fun _ _ _ h=>h
     case hg13_18=>rfl
     case hy13_18=>(intro w hSw;(try dsimp only at hSw);go_simp;(try with_reducible rfl))
     (try simp only [Act.put,List.setIfInBounds_toArray,List.set_cons_zero,List.set_cons_succ])
     refine wpAnyH_ready (rs:=[19]) (by kernel_rfl) (by simp) ?_
     refine AllReadyH.cons (o:=?p19_26) ?ho19_26 (fun KK hK=>?step19_26) ?more19_26
     case ho19_26=>(simp only [List.getElem?_toArray,List.getElem?_cons_succ,List.getElem?_cons_zero];rfl)
     case step19_26 =>
      go_simp
      (go_at_call 13;(with_reducible refine (hDec.out _ (Qa hw4H.out hb15)).mono ?_);rintro e w6 ⟨rfl,hb6⟩)
      (try go_wp2_with fail)
      refine hK.out _ _ (hS1.out _ hb6) (fun hH2=>?_)
      clear hHeld hK KK
      have hHeld:=hH2
      clear hH2
      (try simp only [Act.put,List.setIfInBounds_toArray,List.set_cons_zero,List.set_cons_succ])
      refine wpAnyH_take (i:=20) (oi:=?o20_19) (v:=?v20_19) ?hi20_19 (by kernel_rfl) (by kernel_rfl) (by kernel_rfl) ?hq20_19 (Or.inl ⟨?hg20_19,?hy20_19⟩) hHeld ?rest20_19
      case hi20_19=>(simp only [List.getElem?_toArray,List.getElem?_cons_succ,List.getElem?_cons_zero];rfl)
      case hq20_19=>exact fun _ _ _ h=>h
      case hg20_19=>rfl
      case hy20_19=>(intro w hSw;(try dsimp only at hSw);go_simp;(try with_reducible rfl))
      (try simp only [Act.put,List.setIfInBounds_toArray,List.set_cons_zero,List.set_cons_succ])
      refine wpAnyH_take (i:=21) (oi:=?o21_20) (v:=?v21_20) ?hi21_20 (by kernel_rfl) (by kernel_rfl) (by kernel_rfl) ?hq21_20 (Or.inl ⟨?hg21_20,?hy21_20⟩) hHeld ?rest21_20
      case hi21_20=>(simp only [List.getElem?_toArray,List.getElem?_cons_succ,List.getElem?_cons_zero];rfl)
      case hq21_20=>exact fun _ _ _ h=>h
      case hg21_20=>rfl
      case hy21_20=>(intro w hSw;(try dsimp only at hSw);go_simp;(try with_reducible rfl))
      (try simp only [Act.put,List.setIfInBounds_toArray,List.set_cons_zero,List.set_cons_succ])
      refine wpAnyH_take (i:=22) (oi:=?o22_21) (v:=?v22_21) ?hi22_21 (by kernel_rfl) (by kernel_rfl) (by kernel_rfl) ?hq22_21 (Or.inl ⟨?hg22_21,?hy22_21⟩) hHeld ?rest22_21
      case hi22_21=>(simp only [List.getElem?_toArray,List.getElem?_cons_succ,List.getElem?_cons_zero];rfl)
      case hq22_21=>exact fun _ _ _ h=>h
      case hg22_21=>rfl
      case hy22_21=>(intro w hSw;(try dsimp only at hSw);go_simp;(try with_reducible rfl))
      (try simp only [Act.put,List.setIfInBounds_toArray,List.set_cons_zero,List.set_cons_succ])
      refine wpAnyH_take (i:=23) (oi:=?o23_22) (v:=?v23_22) ?hi23_22 (by kernel_rfl) (by kernel_rfl) (by kernel_rfl) ?hq23_22 (Or.inl ⟨?hg23_22,?hy23_22⟩) hHeld ?rest23_22
      case hi23_22=>(simp only [List.getElem?_toArray,List.getElem?_cons_succ,List.getElem?_cons_zero];rfl)
      case hq23_22=>exact fun _ _ _ h=>h
      case hg23_22=>rfl
      case hy23_22=>(intro w hSw;(try dsimp only at hSw);go_simp;(try with_reducible rfl))
      (try simp only [Act.put,List.setIfInBounds_toArray,List.set_cons_zero,List.set_cons_succ])
      refine wpAnyH_take (i:=24) (oi:=?o24_23) (v:=?v24_23) ?hi24_23 (by kernel_rfl) (by kernel_rfl) (by kernel_rfl) ?hq24_23 (Or.inl ⟨?hg24_23,?hy24_23⟩) hHeld ?rest24_23
      case hi24_23=>(simp only [List.getElem?_toArray,List.getElem?_cons_succ,List.getElem?_cons_zero];rfl)
      case hq24_23=>exact fun _ _ _ h=>h
      case hg24_23=>rfl
      case hy24_23=>(intro w hSw;(try dsimp only at hSw);go_simp;(try with_reducible rfl))
      (try simp only [Act.put,List.setIfInBounds_toArray,List.set_cons_zero,List.set_cons_succ])
      refine wpAnyH_take (i:=25) (oi:=?o25_24) (v:=?v25_24) ?hi25_24 (by kernel_rfl) (by kernel_rfl) (by kernel_rfl) ?hq25_24 (Or.inl ⟨?hg25_24,?hy25_24⟩) hHeld ?rest25_24
      case hi25_24=>(simp only [List.getElem?_toArray,List.getElem?_cons_succ,List.getElem?_cons_zero];rfl)
      case hq25_24=>exact fun _ _ _ h=>h
      case hg25_24=>rfl
      case hy25_24=>(intro w hSw;(try dsimp only at hSw);go_simp;(try with_reducible rfl))
      (try simp only [Act.put,List.setIfInBounds_toArray,List.set_cons_zero,List.set_cons_succ])
      refine wpAnyH_take (i:=26) (oi:=?o26_25) (v:=?v26_25) ?hi26_25 (by kernel_rfl) (by kernel_rfl) (by kernel_rfl) ?hq26_25 (Or.inl ⟨?hg26_25,?hy26_25⟩) hHeld ?rest26_25
      case hi26_25=>(simp only [List.getElem?_toArray,List.getElem?_cons_succ,List.getElem?_cons_zero];rfl)
      case hq26_25=>exact fun _ _ _ h=>h
      case hg26_25=>rfl
      case hy26_25=>(intro w hSw;(try dsimp only at hSw);go_simp;(try with_reducible rfl))
      (try simp only [Act.put,List.setIfInBounds_toArray,List.set_cons_zero,List.set_cons_succ])
      refine wpAnyH_done (by kernel_rfl) ?_ _
      refine NoPanic.normal ?_
      go_wp2
      go_meet
      exact ⟨rfl,rfl,rfl,Qa hb15 hb6⟩
     exact AllReadyH.nil
    exact AllReadyH.nil
   case rest =>
    obtain ⟨rfl,rfl,rfl,hw6⟩:=hcut
    obtain ⟨w6,rfl⟩:∃ wq:World,wq=wc:=⟨_,rfl⟩
    have hO6:=Lib.hid (HI.out.1.later hw6)
    have hb36:=Lib.hid (Qa hw4H.out hw6)
    have hOT:=Lib.hid HI.out.2.1
    have xs0:=keep hw6 x0
    have xs1:=keep hw6 x1
    have xs2:=keep hw6 x2
    have xs3:=keep hw6 x3
    clear HI hw6 x0 x1 x2 x3 e0 e1 m2 p0 hS0 hGr hDec hw4H y0 y1 gl0 gl1 gl2
    cases yes
    case false =>
     have hE:Hid (Jp w0 w6 Bo u10 u11 ol O/\Jo c (QS ds) W2 (k+1) O/\Below w3.heap.size w3 w6):=⟨hO6.out,hOT.out.skip htk.out hysH.out,hb36.out⟩
     clear xs0 xs1 xs2 xs3
     go_wp2
     go_roundw
     case rel=>exact ⟨k+1,ol,O,hkH.out,by go_num,hE⟩
     case measure=>have:=hkH.out;simp [intOf];omega
    case true =>
     obtain ⟨Ao,co,rfl,hAo⟩:=hO6.out.all hI3H.out (Nat.le_of_eq hBoH.out)
     obtain ⟨As,cst,rfl,hAs⟩:=Qbt (n:=1) (fun x:Yl=>rfl) Qnq hO6.out.s
     have hAoH:=Lib.hid hAo
     have hAsH:=Lib.hid hAs
     have hlen:=hO6.out.l
     have hlen14:O.length<=14:=by have:=hOT.out.len;omega
     obtain ⟨n,hn⟩:∃ n,O.length=n:=⟨_,rfl⟩
     rw [hn] at hlen14
     rw [hlen,hn]
     have hnH:=Lib.hid hn
     have holH:=Lib.hid (hlen.trans hn)
     clear hAo hAs hlen hn
     obtain ⟨mf,hmf,hltf,hgef⟩:=QoY O (s,Qd t)
     rw [hnH.out] at hmf
     have hltfH:=Lib.hid hltf
     have hgefH:=Lib.hid hgef
     clear hltf hgef
     go_upto_block 2 with fail
     go_cut [16] (fun x wx=>x = .int .i64 mf/\Below w6.heap.size w6 wx)
     case first =>
      go_wp2_with fail
      go_loopw [16] (fun x wr=>∃ m:Nat,m<=mf/\x = .int .i64 m/\Below w6.heap.size w6 wr) (fun x _=>mf-(intOf x).toNat)
      case atStart=>exact ⟨0,Nat.zero_le _,rfl,Below.refl _ _⟩
      case round =>
       obtain ⟨m,hm,rfl,hw7⟩:=hrel
       obtain ⟨w7,rfl⟩:∃ wi:World,wi=wr:=⟨_,rfl⟩
       have z0:=keep hw7 xs0
       have z1:=keep hw7 xs1
       have hm0:(0:Int)<=(m:Int):=by omega
       have hcell:Hid (m<n->∃ bs os bo oo x5,As=some ⟨bs,os,none⟩/\Ao=some ⟨bo,oo,none⟩/\O[m]? = some x5/\w7.cell? ⟨bs,os+m,none⟩=some (.int .u64 (x5.s:Int))/\w7.cell? ⟨bo,oo+m * 4,none⟩=some (.int .i64 x5.t.ses)/\w7.cell? ⟨bo,oo+m * 4+1,none⟩=some (.int .i64 x5.t.seq)):=fun hmn=>by
        have hmo:m<O.length:=by rw [hnH.out];exact hmn
        have hmol:m<ol.length:=by rw [holH.out];exact hmn
        obtain ⟨bs,os,e1,hcs⟩:=hAsH.out m hmo
        obtain ⟨bo,oo,a5,e2,v0,v1,_,_,_,_,_,HX5⟩:=hAoH.out.at' hmol
        obtain ⟨x5,hx5⟩:∃ x5,O.getD m Qnq=x5:=⟨_,rfl⟩
        have hO5:O[m]? = some x5:=by rw [<- hx5,List.getD_eq_getElem?_getD,List.getElem?_eq_getElem hmo];rfl
        have ht5:a5.t=x5.t:=by
         have h1:=congrArg (fun l=>l[m]?) hO6.out.e
         simp only [QS,Kz,List.getElem?_map,hO5] at h1
         have h2:=HX5.out
         rw [List.getD_eq_getElem?_getD,List.getElem?_eq_getElem hmol] at h2
         rw [List.getElem?_eq_getElem hmol] at h1
         injection h1 with h1
         have h2':ol[m]=a5:=h2
         have h1':(ol[m]).t=x5.t:=h1
         rw [<- h2'];exact h1'
        rw [hx5] at hcs
        have s0:w6.cell? ⟨bs,os+m,none⟩=some (.int .u64 (x5.s:Int)):=by
         have h1:=hcs 0 (.int .u64 (x5.s:Int)) rfl
         rw [Go.WideShapes.add_plain] at h1
         simpa using h1
        rw [ht5] at v0 v1
        exact ⟨bs,os,bo,oo,x5,e1,e2,hO5,keep hw7 s0,keep hw7 v0,keep hw7 v1⟩
       by_cases hlt:m<mf
       ·have hmn:m<n:=by omega
        have hmi:(m:Int)<(n:Int):=by omega
        obtain ⟨bs,os,bo,oo,x5,rfl,rfl,hO5,s0,v0,v1⟩:=hcell.out hmn
        have hltx:Xx x5.key (s,Qd t):=hltfH.out x5 (by
         rw [List.mem_take_iff_getElem]
         obtain ⟨hl5,e5⟩:=List.getElem?_eq_some_iff.1 hO5
         exact ⟨m,by omega,e5⟩)
        have hmH:=Lib.hid hlt
        have hmb:m<100:=by omega
        clear hlt hm hmn hO5 hcell
        rcases hltx with h1 | ⟨h1,h2⟩
        ·have q1:(x5.s:Int)<(s:Int):=by have h1:x5.s<s:=h1;omega
         clear h1
         go_wp2
         go_quiet (fail)
         go_wp2
         go_roundw
         case rel=>exact ⟨m+1,hmH.out,by go_num,Qj hw7 _⟩
         case measure=>have:=hmH.out;simp [intOf];omega
        ·obtain rfl:x5.s=s:=h1
         have hLs:Hid (∀ wz,Calls Tryz.prog 17 #[.agg #[.int .i64 x5.t.ses,.int .i64 x5.t.seq],.agg #[.int .i64 t.ses,.int .i64 t.seq]] wz fun e w'=>e = .returned (.bool true)/\Below wz.heap.size wz w'):=fun wz=>by
          have:=QcQ x5.t.ses x5.t.seq t.ses t.seq wz
          rw [show QbS x5.t.ses x5.t.seq t.ses t.seq=true from h2] at this
          exact this
         have hSl:Hid (∀ w',Below w7.heap.size w7 w'->(w'.cell? ⟨bs,os+m,none⟩=some (.int .u64 (x5.s:Int))/\w'.cell? ⟨bo,oo+m * 4,none⟩=some (.int .i64 x5.t.ses)/\w'.cell? ⟨bo,oo+m * 4+1,none⟩=some (.int .i64 x5.t.seq)/\w'.cell? ⟨bt,ot+k * 4,none⟩=some (.int .i64 t.ses)/\w'.cell? ⟨bt,ot+k * 4+1,none⟩=some (.int .i64 t.seq)/\Below w7.heap.size w7 w')):=fun w' hb=>⟨keep hb s0,keep hb v0,keep hb v1,keep hb z0,keep hb z1,hb⟩
         have hbD:=Qb (Below.refl w7.heap.size w7)
         clear h2
         go_wp2
         go_region_held3 (fun w'=>w'.cell? ⟨bs,os+m,none⟩=some (.int .u64 (x5.s:Int))/\w'.cell? ⟨bo,oo+m * 4,none⟩=some (.int .i64 x5.t.ses)/\w'.cell? ⟨bo,oo+m * 4+1,none⟩=some (.int .i64 x5.t.seq)/\w'.cell? ⟨bt,ot+k * 4,none⟩=some (.int .i64 t.ses)/\w'.cell? ⟨bt,ot+k * 4+1,none⟩=some (.int .i64 t.seq)/\Below w7.heap.size w7 w')
          (first | exact hSl.out _ hbD | exact hSl.out _ hbZ)
          ((go_at_call 17;(with_reducible refine (hLs.out _).mono ?_);rintro e w8 ⟨rfl,hb8⟩;have hbZ:=Qa hbD hb8))
         all_goals
          have hE:=Lib.hid (Qa hw7 hbZ)
          clear hbZ hbD hSl hLs
          go_wp2
          go_roundw
          case rel=>exact ⟨m+1,hmH.out,by go_num,hE.out⟩
          case measure=>have:=hmH.out;simp [intOf];omega
       ·obtain rfl:m=mf:=by omega
        have hex:Hid (m<n->∃ (bs os bo oo:Nat) (x5:Yl),As=some ⟨bs,os,none⟩/\Ao=some ⟨bo,oo,none⟩/\w7.cell? ⟨bs,os+m,none⟩=some (.int .u64 (x5.s:Int))/\w7.cell? ⟨bo,oo+m * 4,none⟩=some (.int .i64 x5.t.ses)/\w7.cell? ⟨bo,oo+m * 4+1,none⟩=some (.int .i64 x5.t.seq)/\¬ Xx x5.key (s,Qd t)):=fun hmn=>by
         obtain ⟨bs,os,bo,oo,x5,e1,e2,hO5,s0,v0,v1⟩:=hcell.out hmn
         exact ⟨bs,os,bo,oo,x5,e1,e2,s0,v0,v1,hgefH.out x5 hO5⟩
        clear hcell hlt hm
        by_cases hmn:m<n
        ·obtain ⟨bs,os,bo,oo,x5,rfl,rfl,s0,v0,v1,hnl⟩:=hex.out hmn
         have hmi:(m:Int)<(n:Int):=by omega
         have q1:¬ ((x5.s:Int)<(s:Int)):=fun h=>hnl (.inl (by show x5.s<s;omega))
         by_cases h2:x5.s=s
         ·obtain rfl:x5.s=s:=h2
          have hl2:QbS x5.t.ses x5.t.seq t.ses t.seq=false:=by
           cases e:QbS x5.t.ses x5.t.seq t.ses t.seq with
           | false=>rfl
           | true=>exact absurd (.inr ⟨rfl,e⟩) hnl
          have hLs:Hid (∀ wz,Calls Tryz.prog 17 #[.agg #[.int .i64 x5.t.ses,.int .i64 x5.t.seq],.agg #[.int .i64 t.ses,.int .i64 t.seq]] wz fun e w'=>e = .returned (.bool false)/\Below wz.heap.size wz w'):=fun wz=>by
           have:=QcQ x5.t.ses x5.t.seq t.ses t.seq wz
           rw [hl2] at this
           exact this
          have hSl:Hid (∀ w',Below w7.heap.size w7 w'->(w'.cell? ⟨bs,os+m,none⟩=some (.int .u64 (x5.s:Int))/\w'.cell? ⟨bo,oo+m * 4,none⟩=some (.int .i64 x5.t.ses)/\w'.cell? ⟨bo,oo+m * 4+1,none⟩=some (.int .i64 x5.t.seq)/\w'.cell? ⟨bt,ot+k * 4,none⟩=some (.int .i64 t.ses)/\w'.cell? ⟨bt,ot+k * 4+1,none⟩=some (.int .i64 t.seq)/\Below w7.heap.size w7 w')):=fun w' hb=>⟨keep hb s0,keep hb v0,keep hb v1,keep hb z0,keep hb z1,hb⟩
          have hbD:=Qb (Below.refl w7.heap.size w7)
          clear hl2 hnl
          go_wp2
          go_region_held3 (fun w'=>w'.cell? ⟨bs,os+m,none⟩=some (.int .u64 (x5.s:Int))/\w'.cell? ⟨bo,oo+m * 4,none⟩=some (.int .i64 x5.t.ses)/\w'.cell? ⟨bo,oo+m * 4+1,none⟩=some (.int .i64 x5.t.seq)/\w'.cell? ⟨bt,ot+k * 4,none⟩=some (.int .i64 t.ses)/\w'.cell? ⟨bt,ot+k * 4+1,none⟩=some (.int .i64 t.seq)/\Below w7.heap.size w7 w')
           (first | exact hSl.out _ hbD | exact hSl.out _ hbZ)
           ((go_at_call 17;(with_reducible refine (hLs.out _).mono ?_);rintro e w8 ⟨rfl,hb8⟩;have hbZ:=Qa hbD hb8))
          all_goals
           have hE:=Lib.hid (Qa hw7 hbZ)
           clear hbZ hbD hSl hLs
           go_wp2
           go_meet
           exact ⟨rfl,hE.out⟩
         ·have q2:Hid (((x5.s:Int) == (s:Int))=false):=by show _=_;rw [beq_eq_false_iff_ne];omega
          have q3:Hid (decide ((x5.s:Int)<(s:Int))=false):=decide_eq_false q1
          clear hnl h2 q1
          go_wp2
          have q4:=q2.out
          have q5:=q3.out
          have q6:decide ((x5.s:Int)=(s:Int))=false:=by have:=q2.out;rw [beq_eq_false_iff_ne] at this;exact decide_eq_false this
          have q7:¬ ((x5.s:Int)=(s:Int)):=of_decide_eq_false q6
          have q8:¬ (x5.s=s):=fun e=>q7 (by rw [e])
          have q9:¬ ((x5.s:Int)<(s:Int)):=of_decide_eq_false q5
          go_quiet (fail)
          clear q4 q5 q6 q7 q8 q9
          have hE:=Lib.hid (Qj hw7 nq)
          go_wp2
          go_meet
          exact ⟨rfl,hE.out⟩
        ·have hmd:¬ ((m:Int)<(n:Int)):=by omega
         go_wp2
         go_quiet (fail)
         have hE:=Lib.hid (Qj hw7 nq)
         go_wp2
         go_meet
         exact ⟨rfl,hE.out⟩
     case rest =>
      obtain ⟨rfl,hb8⟩:=hcut
      obtain ⟨w8,rfl⟩:∃ wq:World,wq=wc:=⟨_,rfl⟩
      have hO8:=Lib.hid (hO6.out.later hb8)
      have hmle:mf<=ol.length:=by rw [holH.out];exact hmf
      have hmlO:mf<=O.length:=by rw [hnH.out];exact hmf
      have hr8:=hO8.out.r
      have hs8:=hO8.out.s
      rw [holH.out] at hr8
      rw [hnH.out] at hs8
      have HFo:=Lib.hid (Qc5 (f:=Q6.vs) (n:=4) (fun a=>rfl) holH.out hr8)
      have HFs:=Lib.hid (Qc5 (f:=JN) (n:=1) (fun a=>rfl) hnH.out hs8)
      have hbase8:Hid (Bo<=w8.heap.size):=by show _<=_;rw [<- hBoH.out];have:=hb36.out.size;have:=hb8.size;omega
      have hb38:=Lib.hid (Qa hb36.out hb8)
      have X8:Hid (∀ wz,Below w8.heap.size w8 wz->wz.cell? ⟨bt,ot+k * 4,none⟩=some (.int .i64 t.ses)/\wz.cell? ⟨bt,ot+k * 4+1,none⟩=some (.int .i64 t.seq)/\wz.cell? ⟨bt,ot+k * 4+2,none⟩=some (.slice At t.rds.length cta)/\wz.cell? ⟨bt,ot+k * 4+3,none⟩=some (.slice Bt t.wrs.length ctb)):=fun wz hb=>⟨keep (Qa hb8 hb) xs0,keep (Qa hb8 hb) xs1,keep (Qa hb8 hb) xs2,keep (Qa hb8 hb) xs3⟩
      have hlt1:Hid (((ol.take mf).flatMap Q6.vs).length=mf * 4):=by show _=_;rw [Qbx,List.length_take,Nat.min_eq_left hmle]
      have hlt2:Hid (((O.take mf).flatMap JN).length=mf * 1):=by show _=_;rw [Qcs,List.length_take,Nat.min_eq_left hmlO]
      have hld1:Hid (((ol.drop mf).flatMap Q6.vs).length=(n-mf) * 4):=by show _=_;rw [Qbx,List.length_drop,holH.out]
      have hld2:Hid (((O.drop mf).flatMap JN).length=(n-mf) * 1):=by show _=_;rw [Qcs,List.length_drop,hnH.out]
      have hdr1:Hid (mf=n->(ol.drop mf).flatMap Q6.vs=[]):=fun e=>by rw [List.drop_eq_nil_of_le (by rw [holH.out,e];exact Nat.le_refl _)];rfl
      have hdr2:Hid (mf=n->(O.drop mf).flatMap JN=[]):=fun e=>by rw [List.drop_eq_nil_of_le (by rw [hnH.out,e];exact Nat.le_refl _)];rfl
      have hbd1:(0:Int)<=(mf:Int):=by omega
      obtain ⟨i0,hi0,hz0,hz1,hz2⟩:=info_parts Qga
      obtain ⟨i1,hi1,hy0,hy1,hy2⟩:=info_parts Qhy
      clear hr8 hs8 hmle hmlO hO6 hb36 xs0 xs1 xs2 xs3 hb8 hAoH hAsH
      go_upto_region 16 with fail
      go_cut [17] (fun v wx=>∃ A9 k9,v = .slice A9 mf k9/\wx.ownsRow w8.heap.size 38 4 (.slice A9 mf k9) mf ((ol.take mf).flatMap Q6.vs)/\Below w8.heap.size w8 wx)
      case first =>
       rcases HFo.out with ⟨rfl,hc0,hn0⟩ | ⟨g0,o0,rfl,hcap,hcl⟩
       ·have hm0:Hid (mf=0):=by show _=_;omega
        have hbd2:(mf:Int)<=(co:Int):=by omega
        have hbd3:mf<=co:=by omega
        clear hc0 hn0
        go_wp2_with (at_builtin;refine Zi rfl _ _ 47 rfl w8.heap.size 38 i0 _ 4 64 Tryz.underlying47 hi0 hz0 hz1 hz2 rfl (by decide) (.slice none 0 0) 0 [] rfl (Q7 _ _ _ _) none mf _ ((ol.take mf).flatMap Q6.vs) rfl hlt1.out (fun _=>hm0.out) (fun _ e=>by cases e) (Vr _) (QA (by omega)) (by omega) (Nat.le_refl _) ?_;intro v9 w9 HO9 hg9 _)
        go_meet
        rw [Nat.zero_add,List.nil_append] at HO9
        obtain ⟨A9,k9,rfl⟩:=ZT HO9
        have hbq:Below w8.heap.size w8 w9:=QX (Below.refl w8.heap.size w8) (Nat.le_refl _) (Q7 w8 w8.heap.size 4 38) hg9
        exact ⟨A9,k9,rfl,HO9,hbq⟩
       ·have hbd2:(mf:Int)<=(co:Int):=by omega
        have hbd3:mf<=co:=by omega
        go_wp2_with (at_builtin;refine Zi rfl _ _ 47 rfl w8.heap.size 38 i0 _ 4 64 Tryz.underlying47 hi0 hz0 hz1 hz2 rfl (by decide) (.slice none 0 0) 0 [] rfl (Q7 _ _ _ _) (some ⟨g0,o0,none⟩) mf co ((ol.take mf).flatMap Q6.vs) rfl hlt1.out (fun e=>by cases e) (fun ad e=>by cases e;exact Qc6 (f:=Q6.vs) (n:=4) (fun a=>rfl) (hcl _ (Below.refl _ _)) mf) (Vr _) (QA (by omega)) (by omega) (Nat.le_refl _) ?_;intro v9 w9 HO9 hg9 _)
        go_meet
        rw [Nat.zero_add,List.nil_append] at HO9
        obtain ⟨A9,k9,rfl⟩:=ZT HO9
        have hbq:Below w8.heap.size w8 w9:=QX (Below.refl w8.heap.size w8) (Nat.le_refl _) (Q7 w8 w8.heap.size 4 38) hg9
        exact ⟨A9,k9,rfl,HO9,hbq⟩
      case rest =>
       obtain ⟨A9o,k9o,rfl,hR,hB9⟩:=hcut
       obtain ⟨w9,rfl⟩:∃ wq:World,wq=wc:=⟨_,rfl⟩
       have hR9o:=Lib.hid hR
       have hb9o:=Lib.hid hB9
       clear hR hB9
       obtain ⟨x90,x91,x92,x93⟩:=X8.out _ hb9o.out
       have hrow:=Lib.hid (Qi hR9o.out (Qc w9 (.cells #[.int .i64 t.ses,.int .i64 t.seq,.slice At t.rds.length cta,.slice Bt t.wrs.length ctb] 38)))
       have hbw9:=Lib.hid (Qa hb9o.out (Qc w9 (.cells #[.int .i64 t.ses,.int .i64 t.seq,.slice At t.rds.length cta,.slice Bt t.wrs.length ctb] 38)))
       go_upto_region 17 with fail
       go_cut [17] (fun v wx=>∃ A9 k9,v = .slice A9 (mf+1) k9/\wx.ownsRow w8.heap.size 38 4 (.slice A9 (mf+1) k9) (mf+1) (((ol.take mf).flatMap Q6.vs) ++ [.int .i64 t.ses,.int .i64 t.seq,.slice At t.rds.length cta,.slice Bt t.wrs.length ctb])/\Below w8.heap.size w8 wx)
       case first =>
        go_wp2_with (at_builtin;refine wpList_append_own_at _ rfl _ _ 47 rfl w8.heap.size 38 i0 _ 4 64 Tryz.underlying47 hi0 hz0 hz1 hz2 rfl (by decide) (.slice A9o mf k9o) mf ((ol.take mf).flatMap Q6.vs) rfl hrow.out ⟨w9.heap.size,0,none⟩ 1 1 [.int .i64 t.ses,.int .i64 t.seq,.slice At t.rds.length cta,.slice Bt t.wrs.length ctb] rfl rfl (World.news_of_block (heap_alloc_new w9 _)) Ue (QA (by omega)) (by omega) hbw9.out.size ?_;intro v10 w10 HO10 hg10 _ _)
        go_meet
        obtain ⟨A10,k10,rfl⟩:=ZT HO10
        exact ⟨A10,k10,rfl,HO10,QX hbw9.out (Nat.le_refl _) hrow.out hg10⟩
       case rest =>
        obtain ⟨A10o,k10o,rfl,hR,hB9⟩:=hcut
        obtain ⟨w10,rfl⟩:∃ wq:World,wq=wc:=⟨_,rfl⟩
        have hR10o:=Lib.hid hR
        have hb10o:=Lib.hid hB9
        clear hR hB9 hrow hbw9 hR9o hb9o x90 x91 x92 x93
        go_upto_region 18 with fail
        go_cut [17] (fun v wx=>∃ A9 k9 z,v = .slice A9 z k9/\z=n+1/\wx.ownsRow w8.heap.size 38 4 (.slice A9 z k9) z (((ol.take mf).flatMap Q6.vs) ++ [.int .i64 t.ses,.int .i64 t.seq,.slice At t.rds.length cta,.slice Bt t.wrs.length ctb] ++ ((ol.drop mf).flatMap Q6.vs))/\Below w8.heap.size w8 wx)
        case first =>
         have hbd4:(mf:Int)<=(n:Int):=by omega
         rcases HFo.out with ⟨rfl,hc0,hn0⟩ | ⟨g0,o0,rfl,hcap,hcl⟩
         ·have hm0:Hid (n-mf=0):=by show _=_;omega
          have hbd2:(mf:Int)<=(co:Int):=by omega
          have hbd3:mf<=co:=by omega
          clear hc0 hn0
          go_wp2_with (at_builtin;refine Zi rfl _ _ 47 rfl w8.heap.size 38 i0 _ 4 64 Tryz.underlying47 hi0 hz0 hz1 hz2 rfl (by decide) (.slice A10o (mf+1) k10o) (mf+1) (((ol.take mf).flatMap Q6.vs) ++ [.int .i64 t.ses,.int .i64 t.seq,.slice At t.rds.length cta,.slice Bt t.wrs.length ctb]) rfl hR10o.out none (n-mf) _ ((ol.drop mf).flatMap Q6.vs) rfl hld1.out (fun _=>hm0.out) (fun _ e=>by cases e) (Vr _) (QA (by omega)) (by omega) hb10o.out.size ?_;intro v9 w9 HO9 hg9 _)
          go_meet
          obtain ⟨A9,k9,rfl⟩:=ZT HO9
          have hbq:Below w8.heap.size w8 w9:=QX hb10o.out (Nat.le_refl _) hR10o.out hg9
          exact ⟨A9,k9,_,rfl,(by omega),HO9,hbq⟩
         ·by_cases hck:co=mf
          ·obtain rfl:co=mf:=hck
           have hm0:Hid (n-co=0):=by show _=_;omega
           have hdn:=Lib.hid (hdr1.out (by omega))
           go_wp2_with (at_builtin;refine Zi rfl _ _ 47 rfl w8.heap.size 38 i0 _ 4 64 Tryz.underlying47 hi0 hz0 hz1 hz2 rfl (by decide) (.slice A10o (co+1) k10o) (co+1) (((ol.take co).flatMap Q6.vs) ++ [.int .i64 t.ses,.int .i64 t.seq,.slice At t.rds.length cta,.slice Bt t.wrs.length ctb]) rfl hR10o.out _ 0 _ [] rfl rfl (fun _=>rfl) (fun _ _ j u hu=>by simp at hu) (fun u hu=>by cases hu) (QA (by omega)) (by omega) hb10o.out.size ?_;intro v9 w9 HO9 hg9 _)
           go_meet
           obtain ⟨A9,k9,rfl⟩:=ZT HO9
           have hbq:Below w8.heap.size w8 w9:=QX hb10o.out (Nat.le_refl _) hR10o.out hg9
           exact ⟨A9,k9,_,rfl,(by have:=hm0.out;omega),(by rw [hdn.out];exact HO9),hbq⟩
          ·have hbd2:(mf:Int)<=(co:Int):=by omega
           have hbd3:mf<=co:=by omega
           go_wp2_with (at_builtin;refine Zi rfl _ _ 47 rfl w8.heap.size 38 i0 _ 4 64 Tryz.underlying47 hi0 hz0 hz1 hz2 rfl (by decide) (.slice A10o (mf+1) k10o) (mf+1) (((ol.take mf).flatMap Q6.vs) ++ [.int .i64 t.ses,.int .i64 t.seq,.slice At t.rds.length cta,.slice Bt t.wrs.length ctb]) rfl hR10o.out (some ⟨g0,o0+mf * 4,none⟩) (n-mf) (co-mf) ((ol.drop mf).flatMap Q6.vs) rfl hld1.out (fun e=>by cases e) (fun ad e=>by cases e;exact Qc7 (f:=Q6.vs) (n:=4) (fun a=>rfl) (hcl _ hb10o.out) mf _ (by omega)) (Vr _) (QA (by omega)) (by omega) hb10o.out.size ?_;intro v9 w9 HO9 hg9 _)
           go_meet
           obtain ⟨A9,k9,rfl⟩:=ZT HO9
           have hbq:Below w8.heap.size w8 w9:=QX hb10o.out (Nat.le_refl _) hR10o.out hg9
           exact ⟨A9,k9,_,rfl,(by omega),HO9,hbq⟩
        case rest =>
         obtain ⟨A11o,k11o,zo,rfl,hzo,hR,hB9⟩:=hcut
         obtain ⟨w11,rfl⟩:∃ wq:World,wq=wc:=⟨_,rfl⟩
         have hR11o:=Lib.hid hR
         have hb11:=Lib.hid hB9
         have hzoH:=Lib.hid hzo
         clear hR hB9 hzo hR10o hb10o
         go_upto_region 21 with fail
         go_cut [18] (fun v wx=>∃ A9 k9,v = .slice A9 mf k9/\wx.ownsRow w11.heap.size 39 1 (.slice A9 mf k9) mf ((O.take mf).flatMap JN)/\Below w11.heap.size w11 wx)
         case first =>
          rcases HFs.out with ⟨rfl,hc0,hn0⟩ | ⟨g0,o0,rfl,hcap,hcl⟩
          ·have hm0:Hid (mf=0):=by show _=_;omega
           have hbd2:(mf:Int)<=(cst:Int):=by omega
           have hbd3:mf<=cst:=by omega
           clear hc0 hn0
           go_wp2_with (at_builtin;refine Zi rfl _ _ 59 rfl w11.heap.size 39 i1 _ 1 8 Tryz.underlying59 hi1 hy0 hy1 hy2 rfl (by decide) (.slice none 0 0) 0 [] rfl (Q7 _ _ _ _) none mf _ ((O.take mf).flatMap JN) rfl hlt2.out (fun _=>hm0.out) (fun _ e=>by cases e) (Vs _) (QA (by omega)) (by omega) (Nat.le_refl _) ?_;intro v9 w9 HO9 hg9 _)
           go_meet
           rw [Nat.zero_add,List.nil_append] at HO9
           obtain ⟨A9,k9,rfl⟩:=ZT HO9
           have hbq:Below w11.heap.size w11 w9:=QX (Below.refl w11.heap.size w11) (Nat.le_refl _) (Q7 w11 w11.heap.size 1 39) hg9
           exact ⟨A9,k9,rfl,HO9,hbq⟩
          ·have hbd2:(mf:Int)<=(cst:Int):=by omega
           have hbd3:mf<=cst:=by omega
           go_wp2_with (at_builtin;refine Zi rfl _ _ 59 rfl w11.heap.size 39 i1 _ 1 8 Tryz.underlying59 hi1 hy0 hy1 hy2 rfl (by decide) (.slice none 0 0) 0 [] rfl (Q7 _ _ _ _) (some ⟨g0,o0,none⟩) mf cst ((O.take mf).flatMap JN) rfl hlt2.out (fun e=>by cases e) (fun ad e=>by cases e;exact Qc6 (f:=JN) (n:=1) (fun a=>rfl) (hcl _ hb11.out) mf) (Vs _) (QA (by omega)) (by omega) (Nat.le_refl _) ?_;intro v9 w9 HO9 hg9 _)
           go_meet
           rw [Nat.zero_add,List.nil_append] at HO9
           obtain ⟨A9,k9,rfl⟩:=ZT HO9
           have hbq:Below w11.heap.size w11 w9:=QX (Below.refl w11.heap.size w11) (Nat.le_refl _) (Q7 w11 w11.heap.size 1 39) hg9
           exact ⟨A9,k9,rfl,HO9,hbq⟩
         case rest =>
          obtain ⟨A9s,k9s,rfl,hR,hB9⟩:=hcut
          obtain ⟨w12,rfl⟩:∃ wq:World,wq=wc:=⟨_,rfl⟩
          have hR9s:=Lib.hid hR
          have hb9s:=Lib.hid hB9
          clear hR hB9
          have hrow:=Lib.hid (Qi hR9s.out (Qc w12 (.cells #[.int .u64 (s:Int)] 39)))
          have hbw9:=Lib.hid (Qa hb9s.out (Qc w12 (.cells #[.int .u64 (s:Int)] 39)))
          go_upto_region 22 with fail
          go_cut [18] (fun v wx=>∃ A9 k9,v = .slice A9 (mf+1) k9/\wx.ownsRow w11.heap.size 39 1 (.slice A9 (mf+1) k9) (mf+1) (((O.take mf).flatMap JN) ++ [.int .u64 (s:Int)])/\Below w11.heap.size w11 wx)
          case first =>
           go_wp2_with (at_builtin;refine wpList_append_own_at _ rfl _ _ 59 rfl w11.heap.size 39 i1 _ 1 8 Tryz.underlying59 hi1 hy0 hy1 hy2 rfl (by decide) (.slice A9s mf k9s) mf ((O.take mf).flatMap JN) rfl hrow.out ⟨w12.heap.size,0,none⟩ 1 1 [.int .u64 (s:Int)] rfl rfl (World.news_of_block (heap_alloc_new w12 _)) Vj (QA (by omega)) (by omega) hbw9.out.size ?_;intro v10 w10 HO10 hg10 _ _)
           go_meet
           obtain ⟨A10,k10,rfl⟩:=ZT HO10
           exact ⟨A10,k10,rfl,HO10,QX hbw9.out (Nat.le_refl _) hrow.out hg10⟩
          case rest =>
           obtain ⟨A10s,k10s,rfl,hR,hB9⟩:=hcut
           obtain ⟨w13,rfl⟩:∃ wq:World,wq=wc:=⟨_,rfl⟩
           have hR10s:=Lib.hid hR
           have hb10s:=Lib.hid hB9
           clear hR hB9 hrow hbw9 hR9s hb9s
           go_upto_region 23 with fail
           go_cut [18] (fun v wx=>∃ A9 k9 z,v = .slice A9 z k9/\z=n+1/\wx.ownsRow w11.heap.size 39 1 (.slice A9 z k9) z (((O.take mf).flatMap JN) ++ [.int .u64 (s:Int)] ++ ((O.drop mf).flatMap JN))/\Below w11.heap.size w11 wx)
           case first =>
            have hbd4:(mf:Int)<=(n:Int):=by omega
            rcases HFs.out with ⟨rfl,hc0,hn0⟩ | ⟨g0,o0,rfl,hcap,hcl⟩
            ·have hm0:Hid (n-mf=0):=by show _=_;omega
             have hbd2:(mf:Int)<=(cst:Int):=by omega
             have hbd3:mf<=cst:=by omega
             clear hc0 hn0
             go_wp2_with (at_builtin;refine Zi rfl _ _ 59 rfl w11.heap.size 39 i1 _ 1 8 Tryz.underlying59 hi1 hy0 hy1 hy2 rfl (by decide) (.slice A10s (mf+1) k10s) (mf+1) (((O.take mf).flatMap JN) ++ [.int .u64 (s:Int)]) rfl hR10s.out none (n-mf) _ ((O.drop mf).flatMap JN) rfl hld2.out (fun _=>hm0.out) (fun _ e=>by cases e) (Vs _) (QA (by omega)) (by omega) hb10s.out.size ?_;intro v9 w9 HO9 hg9 _)
             go_meet
             obtain ⟨A9,k9,rfl⟩:=ZT HO9
             have hbq:Below w11.heap.size w11 w9:=QX hb10s.out (Nat.le_refl _) hR10s.out hg9
             exact ⟨A9,k9,_,rfl,(by omega),HO9,hbq⟩
            ·by_cases hck:cst=mf
             ·obtain rfl:cst=mf:=hck
              have hm0:Hid (n-cst=0):=by show _=_;omega
              have hdn:=Lib.hid (hdr2.out (by omega))
              go_wp2_with (at_builtin;refine Zi rfl _ _ 59 rfl w11.heap.size 39 i1 _ 1 8 Tryz.underlying59 hi1 hy0 hy1 hy2 rfl (by decide) (.slice A10s (cst+1) k10s) (cst+1) (((O.take cst).flatMap JN) ++ [.int .u64 (s:Int)]) rfl hR10s.out _ 0 _ [] rfl rfl (fun _=>rfl) (fun _ _ j u hu=>by simp at hu) (fun u hu=>by cases hu) (QA (by omega)) (by omega) hb10s.out.size ?_;intro v9 w9 HO9 hg9 _)
              go_meet
              obtain ⟨A9,k9,rfl⟩:=ZT HO9
              have hbq:Below w11.heap.size w11 w9:=QX hb10s.out (Nat.le_refl _) hR10s.out hg9
              exact ⟨A9,k9,_,rfl,(by have:=hm0.out;omega),(by rw [hdn.out];exact HO9),hbq⟩
             ·have hbd2:(mf:Int)<=(cst:Int):=by omega
              have hbd3:mf<=cst:=by omega
              go_wp2_with (at_builtin;refine Zi rfl _ _ 59 rfl w11.heap.size 39 i1 _ 1 8 Tryz.underlying59 hi1 hy0 hy1 hy2 rfl (by decide) (.slice A10s (mf+1) k10s) (mf+1) (((O.take mf).flatMap JN) ++ [.int .u64 (s:Int)]) rfl hR10s.out (some ⟨g0,o0+mf,none⟩) (n-mf) (cst-mf) ((O.drop mf).flatMap JN) rfl hld2.out (fun e=>by cases e) (fun ad e=>by cases e;exact Qc7 (f:=JN) (n:=1) (fun a=>rfl) (hcl _ (Qa hb11.out hb10s.out)) mf _ (by omega)) (Vs _) (QA (by omega)) (by omega) hb10s.out.size ?_;intro v9 w9 HO9 hg9 _)
              go_meet
              obtain ⟨A9,k9,rfl⟩:=ZT HO9
              have hbq:Below w11.heap.size w11 w9:=QX hb10s.out (Nat.le_refl _) hR10s.out hg9
              exact ⟨A9,k9,_,rfl,(by omega),HO9,hbq⟩
           case rest =>
            obtain ⟨A11s,k11s,zs,rfl,hzs,hR,hB9⟩:=hcut
            obtain ⟨w14,rfl⟩:∃ wq:World,wq=wc:=⟨_,rfl⟩
            have hR11s:=Lib.hid hR
            have hb14:=Lib.hid hB9
            have hzsH:=Lib.hid hzs
            clear hR hB9 hzs hR10s hb10s
            have hIn:Hid (Jp w0 w14 Bo (.slice A11o zo k11o) (.slice A11s zs k11s) (ol.take mf ++ ⟨t,At,Bt,cta,ctb⟩ :: ol.drop mf) (O.take mf ++ ⟨t,s⟩ :: O.drop mf)):=hO8.out.ins holH.out hmf (x:=⟨t,s⟩) rfl ht0.out (QeR (Qi hR11o.out hb14.out) hbase8.out) hzoH.out (QeR hR11s.out (Nat.le_trans hbase8.out hb11.out.size)) hzsH.out
            have hOT2:=Lib.hid (hOT.out.ins hndH.out htk.out hysH.out hltfH.out hgefH.out)
            have hE:=Lib.hid (Qa hb38.out (Qa hb11.out hb14.out))
            clear hO8 HFo HFs hb38 X8 hOT ht0
            go_wp2
            go_roundw
            case rel=>exact ⟨k+1,_,_,hkH.out,by go_num,hIn.out,hOT2.out,hE.out⟩
            case measure=>have:=hkH.out;simp [intOf];omega
  ·obtain rfl:k=ds.length:=by omega
   obtain ⟨Ao,co,rfl,hAo⟩:=HI.out.1.all hI3H.out (Nat.le_of_eq hBoH.out)
   have hlt:(QS ds).length=ds.length:=by rw [QS,List.length_map]
   have hOT:=HI.out.2.1
   rw [<- hlt] at hOT
   have hS:=Qoj hE3H.out hpH.out hOT HI.out.1.e
   have hRp:=Lib.hid (Qms (cs:=co) (hI3H.out.later hw4) hpH.out.c hAo hS)
   clear hAo hlt hOT hS hk
   go_wp2_with (go_at_call 18;(with_reducible refine hRp.out.mono ?_);rintro e w5 ⟨rfl,hb5⟩)
   go_ret
   exact ⟨rfl,Qa HB (Qa (Qa hb03.out hw4) hb5)⟩
end Go.Proofs.YtcldpmkhpmlcbaaGreatDoor
