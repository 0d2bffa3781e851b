/- part -/
import Derived.Test.YtcldpmkhpmlcbaaGreatDoorK7
import Derived.Test.YtcldpmkhpmlcbaaGreatDoorK4
import Derived.Test.YtcldpmkhpmlcbaaGreatDoorK8
import Derived.BigQuiet
import Derived.BigRegion
set_option linter.unusedVariables false
set_option linter.unusedSimpArgs false
namespace Go.Proofs.YtcldpmkhpmlcbaaGreatDoor
open Go.RowKit Go.Shelf Go.Maps
theorem Z5.bq {a w w':World} {B q:Nat} {v:Nat->Value} {S:Nat->QR} (h:Z5 w B q v S) (h0:Below q a w) (hb:Below w.heap.size w w'):Below q a w' :=
 ⟨hb.os.trans h0.os,hb.tape.trans h0.tape,hb.output.trans h0.output,Nat.le_trans h0.size hb.size,fun k hk=>(hb.block k (Nat.lt_trans hk h.hq.2)).trans (h0.block k hk)⟩
theorem QcJ {c:Ql} {g:Int} {s s1:QR} {t:Tx} (h:s1=if (Qr c t g).isEmpty then s else QH s (s.last+1) (Qr c t g)):Xq c g s t=if 8<s1.last then Zv s1 (s1.last-8) else s1:=by
 rw [h];rfl
theorem QeQ {α:Type} {f:Nat->α} {g:Nat} {x y:α}:Z0 (Z0 f g x) g y=Z0 f g y:=by
 funext h
 unfold Z0
 split <;> rfl
theorem Qmr {α:Type} {f:Nat->α} {g:Nat}:Z0 f g (f g)=f:=by
 funext h
 unfold Z0
 split
 ·next e=>rw [e]
 ·rfl
set_option maxRecDepth 100000 in
set_option maxHeartbeats 8000000 in
theorem Qms {w0 w:World} {b:Nat} {c:Ql} {F:Xe} {W:Wd} {S:Option Addr} {cs:Nat} {ol:List Q6} (h:Q3 w0 w b c c.reps.length c.reps.length W F) (hfc:Qn c=true) (hO:Kl w0 w F S ol) (hs:QoW c W (QS ol)) :
  Calls Tryz.prog 18 #[.pointer (some ⟨b,0,none⟩),.slice S ol.length cs] w fun e w'=>e = .returned (.bool true)/\Below w.heap.size w w':=by
 have hI:=Lib.hid h
 have hA:=Lib.hid hO
 have hsH:=Lib.hid hs
 have hr4:=Lib.hid (ZI hfc)
 have hol:Hid ((QS ol).length=ol.length/\ol.length<=14):=by
  have h1:(QS ol).length=ol.length:=by rw [QS,List.length_map]
  exact ⟨h1,by rw [<- h1];exact hs.l⟩
 have H0:=Qpd w w.heap.size (Nat.le_refl _) 122
 have hb0:Below w.heap.size w (w.alloc (.cells #[.slice none 0 0,.int .u64 0,.int .u64 0,.slice none 0 0,.int .u64 0,.int .u64 0,.slice none 0 0,.int .u64 0,.int .u64 0,.slice none 0 0,.int .u64 0,.int .u64 0] 122)):=Qc _ _
 clear h hO hs
 go_enter Tryz.func18,Tryz.ntmps18
 go_wp2
 have HF0:=Lib.hid (And.intro H0 (And.intro hb0 (Ym.start (c:=c) (txs:=QS ol))))
 obtain ⟨q,hq⟩:∃ q,w.heap.size=q:=⟨_,rfl⟩
 rw [hq] at HF0 ⊢
 have hqw:=Lib.hid hq
 clear H0 hb0 hq
 go_loopw [6] (fun x wr=>∃ (i:Nat) (v:Nat->Value) (St:Nat->QR),i<=ol.length/\x = .int .i64 i/\Hid (Z5 wr q q v St/\Below q w wr/\Ym c (QS ol) i 0 St)) (fun i _=>ol.length-(intOf i).toNat)
 case atStart=>exact ⟨0,_,_,Nat.zero_le _,rfl,HF0⟩
 case round =>
  obtain ⟨i,v,St,hi,rfl,HI⟩:=hrel
  obtain ⟨wi,rfl⟩:∃ wi:World,wi=wr:=⟨_,rfl⟩
  clear HF0
  by_cases hlt:i<ol.length
  ·have hii:(i:Int)<(ol.length:Int):=by omega
   have hi0:(0:Int)<=(i:Int):=by omega
   have hiH:=Lib.hid hlt
   have hib:i<14:=by have:=hol.out.2;omega
   clear hlt hi
   go_wp2
   go_loopw [7] (fun x wr=>∃ (g:Nat) (v:Nat->Value) (St:Nat->QR),g<=c.reps.length/\x = .int .i64 g/\Hid (Z5 wr q q v St/\Below q w wr/\Ym c (QS ol) i g St)) (fun x _=>c.reps.length-(intOf x).toNat)
   case atStart=>exact ⟨0,v,St,Nat.zero_le _,rfl,HI⟩
   case round =>
    obtain ⟨g,v,St,hg,rfl,HI⟩:=hrel
    obtain ⟨wj,rfl⟩:∃ wi:World,wi=wr:=⟨_,rfl⟩
    have hbw:Below w.heap.size w wj:=by rw [hqw.out];exact HI.out.2.1
    obtain ⟨a0,a1,m2,_⟩:=(hI.out.later hbw).cs
    obtain ⟨Am,km,eM,_⟩:=(hI.out.later hbw).mach
    rw [eM] at m2
    by_cases hlt:g<c.reps.length
    ·have hgi:(g:Int)<(c.reps.length:Int):=by omega
     have hg0:(0:Int)<=(g:Int):=by omega
     have hg4:g<4:=by have:=hr4.out.2;omega
     have hg4i:(g:Int)<4:=by omega
     have hgH:=Lib.hid hlt
     obtain ⟨bt,ot,x,rfl,x0,x1,x2,x3,ht,_,_,HX⟩:=(hA.out.step (Zt.below hbw)).at' hiH.out
     have hti:Hid ((QS ol)[i]? = some x.t):=by
      have h1:=HX.out
      rw [List.getD_eq_getElem?_getD,List.getElem?_eq_getElem hiH.out] at h1
      show _=_
      rw [QS,List.getElem?_map,List.getElem?_eq_getElem hiH.out, <- h1];rfl
     have hft:=Lib.hid (hsH.out.f x.t (List.mem_of_getElem? hti.out))
     have h6:=Xo hft.out
     obtain ⟨rs,hrs⟩:∃ rs,Q4 c x.t g=rs:=⟨_,rfl⟩
     obtain ⟨ws,hws⟩:∃ ws,Qr c x.t g=ws:=⟨_,rfl⟩
     have hRd:Hid (∀ wz,Below wj.heap.size wj wz->Calls Tryz.prog 46 #[.agg #[.slice F.A c.reps.length F.ca,.slice F.A' c.bnds.length F.cb],.agg #[.int .i64 x.t.ses,.int .i64 x.t.seq,.slice x.A x.t.rds.length x.ca,.slice x.B x.t.wrs.length x.cb],.int .i64 g] wz (QaS wz rs)):=fun wz hb=>by
      have hI2:=(hI.out.later hbw).later hb
      have:=QbE c x.t g F.A F.A' x.A x.B F.ca F.cb x.ca x.cb wz (hI2.cf.later hI2.b0) (ht.later hI2.b0) (by omega)
      rw [hrs] at this
      exact this
     have hWr:Hid (∀ wz,Below wj.heap.size wj wz->Calls Tryz.prog 47 #[.agg #[.slice F.A c.reps.length F.ca,.slice F.A' c.bnds.length F.cb],.agg #[.int .i64 x.t.ses,.int .i64 x.t.seq,.slice x.A x.t.rds.length x.ca,.slice x.B x.t.wrs.length x.cb],.int .i64 g] wz (QaT wz ws)):=fun wz hb=>by
      have hI2:=(hI.out.later hbw).later hb
      have:=QaZ c x.t g F.A F.A' x.A x.B F.ca F.cb x.ca x.cb wz (hI2.cf.later hI2.b0) (ht.later hI2.b0) (by omega)
      rw [hws] at this
      exact this
     have hwsH:=Lib.hid hws
     have hrsH:=Lib.hid hrs
     have htH:=Lib.hid ht
     clear hlt hg ht h6 hrs hws eM
     go_wp2
     have hS:Hid (∀ w',Below wj.heap.size wj w'->(w'.cell? ⟨b,0,none⟩=some (.slice F.A c.reps.length F.ca)/\w'.cell? ⟨b,1,none⟩=some (.slice F.A' c.bnds.length F.cb)/\w'.cell? ⟨bt,ot+i * 4,none⟩=some (.int .i64 x.t.ses)/\w'.cell? ⟨bt,ot+i * 4+1,none⟩=some (.int .i64 x.t.seq)/\w'.cell? ⟨bt,ot+i * 4+2,none⟩=some (.slice x.A x.t.rds.length x.ca)/\w'.cell? ⟨bt,ot+i * 4+3,none⟩=some (.slice x.B x.t.wrs.length x.cb)/\Below wj.heap.size wj w')) :=
      fun w' hb=>⟨keep hb a0,keep hb a1,keep hb x0,keep hb x1,keep hb x2,keep hb x3,hb⟩
     go_cut [8,9] (fun s1 s2 wx=>∃ Ar cr Aw cw,s1 = .slice Ar rs.length cr/\s2 = .slice Aw ws.length cw/\Xj wx Ar rs/\Yf wx Aw ws/\QbW wj.heap.size Aw/\Below wj.heap.size wj wx)
     case first =>
      have hbD:=Qb (Below.refl wj.heap.size wj)
      go_region_held3 (fun w'=>w'.cell? ⟨b,0,none⟩=some (.slice F.A c.reps.length F.ca)/\w'.cell? ⟨b,1,none⟩=some (.slice F.A' c.bnds.length F.cb)/\w'.cell? ⟨bt,ot+i * 4,none⟩=some (.int .i64 x.t.ses)/\w'.cell? ⟨bt,ot+i * 4+1,none⟩=some (.int .i64 x.t.seq)/\w'.cell? ⟨bt,ot+i * 4+2,none⟩=some (.slice x.A x.t.rds.length x.ca)/\w'.cell? ⟨bt,ot+i * 4+3,none⟩=some (.slice x.B x.t.wrs.length x.cb)/\Below wj.heap.size wj w')
       (first | exact hS.out _ hbD | exact hS.out _ hbY | exact hS.out _ hbZ)
       (first
        | (go_at_call 46;(with_reducible refine (hRd.out _ (‹_/\_/\_/\_/\_/\_/\Below wj.heap.size wj _›.2.2.2.2.2.2)).mono ?_);rintro e w5 ⟨Ar,cr,rfl,hr5,hb5,hf5⟩;have hbY:=Qa (‹_/\_/\_/\_/\_/\_/\Below wj.heap.size wj _›.2.2.2.2.2.2) hb5)
        | (go_at_call 47;(with_reducible refine (hWr.out _ (‹_/\_/\_/\_/\_/\_/\Below wj.heap.size wj _›.2.2.2.2.2.2)).mono ?_);rintro e w6 ⟨Aw,cw,rfl,hr6,hb6,hf6⟩;have hbZ:=Qa (‹_/\_/\_/\_/\_/\_/\Below wj.heap.size wj _›.2.2.2.2.2.2) hb6;have hs6:=(‹_/\_/\_/\_/\_/\_/\Below wj.heap.size wj _›.2.2.2.2.2.2).size))
      all_goals
       go_wp2
       go_meet
       exact ⟨Ar,cr,Aw,cw,rfl,rfl,hr5.later hb6,hr6,fun a e=>Nat.le_trans hs6 (hf6 a e),hbZ⟩
     case rest =>
      obtain ⟨Ar,cr,Aw,cw,rfl,rfl,hrA,hwA,hfr,hw7⟩:=hcut
      obtain ⟨w7,rfl⟩:∃ wq:World,wq=wc:=⟨_,rfl⟩
      have hF7:Hid (Z5 w7 q q v St/\Below q w w7):=⟨HI.out.1.later hw7,HI.out.1.bq HI.out.2.1 hw7⟩
      have hstg:Hid (St g=Jb c g ((QS ol).take i)):=HI.out.2.2.here hgH.out hg4
      have hRB:=Qmo hsH.out.f hsH.out.l i (g:Int) (c:=c)
      rw [<- hstg.out] at hRB
      have hvt:=hsH.out.rd i x.t hti.out g hgH.out
      rw [<- hstg.out,hrsH.out] at hvt
      have hrl:rs.length<=6:=by rw [<- hrsH.out];exact Nat.le_trans (List.length_filter_le _ _) (Xo hft.out).1
      have hwl:ws.length<=6:=by rw [<- hwsH.out];exact Ux hft.out
      have hwok:Hid (Qad ws):=by rw [<- hwsH.out];exact Qeu htH.out (Xo hft.out).2 c g
      have hwo2:Hid (Yv ws=true):=by rw [<- hwsH.out];exact J4 hft.out
      have hRBH:=Lib.hid hRB
      have hvtH:=Lib.hid hvt
      have hrA7:=Lib.hid hrA
      have hwA7:=Lib.hid hwA
      obtain ⟨la,hla⟩:∃ la,(St g).last=la:=⟨_,rfl⟩
      have hlaH:=Lib.hid hla
      have hla15:la<=14:=by rw [<- hla];exact hRB.la
      have hc1:Hid (∀ wz,Below w7.heap.size w7 wz->wz.cell? ⟨q,g * 3+1,none⟩=some (.int .u64 (la:Int))):=fun wz hb=>by
       obtain ⟨R,hR,_⟩:=(hF7.out.1.later hb).at' hg4
       have:=hR.c1
       rwa [hlaH.out] at this
      clear hRB hvt hrA hwA hla hS hRd hWr a0 a1 x0 x1 x2 x3 m2 hw7
      go_wp2
      go_loopw [10] (fun x wr=>∃ k:Nat,k<=rs.length/\x = .int .i64 k/\Below w7.heap.size w7 wr) (fun x _=>rs.length-(intOf x).toNat)
      case atStart=>exact ⟨0,Nat.zero_le _,rfl,Below.refl _ _⟩
      case round =>
       obtain ⟨k,hk,rfl,hw8⟩:=hrel
       obtain ⟨wk,rfl⟩:∃ wi:World,wi=wr:=⟨_,rfl⟩
       by_cases hlt:k<rs.length
       ·have hki:(k:Int)<(rs.length:Int):=by omega
        have hk0:(0:Int)<=(k:Int):=by omega
        have hkH:=Lib.hid hlt
        have hkb:k<100:=by omega
        obtain ⟨b5,off5,key,ver,rfl,d5,d6,HR⟩:=(hrA7.out.later hw8).at' hlt
        obtain ⟨vv,hvv⟩:∃ vv,Z3 (getK (St g).ks key) la=vv:=⟨_,rfl⟩
        have hnum:vv.num=ver:=by
         have hx:(⟨key,ver⟩:Rd) ∈ rs:=by rw [<- HR.out,List.getD_eq_getElem?_getD,List.getElem?_eq_getElem hlt];exact List.getElem_mem hlt
         have h1:=hvtH.out
         rw [Yj] at h1
         have h2:=List.all_eq_true.1 h1 _ hx
         rw [Vb,hlaH.out,hvv] at h2
         exact of_decide_eq_true h2
        have c1:=hc1.out _ hw8
        have hSn:Hid (∀ wz,Below wk.heap.size wk wz->Calls Tryz.prog 48 #[.pointer (some ⟨q,g * 3,none⟩),.string key,.int .u64 (la:Int)] wz (KY wz vv)):=fun wz hb=>by
         have:=((hF7.out.1.later hw8).later hb).seen hg4 key la (by have:=hRBH.out.it;omega)
         rw [hvv] at this
         exact this
        obtain rfl:ver=vv.num:=hnum.symm
        have hS2:Hid (∀ w',Below wk.heap.size wk w'->(w'.cell? ⟨b5,off5+k * 2,none⟩=some (.string key)/\w'.cell? ⟨q,g * 3+1,none⟩=some (.int .u64 (la:Int))/\Below wk.heap.size wk w')):=fun w' hb=>⟨keep hb d5,keep hb c1,hb⟩
        clear hlt hk hvv
        go_wp2
        go_cut [12] (fun s1 wx=>s1 = .int .u64 (vv.num:Int)/\Below wk.heap.size wk wx)
        case first =>
         have hbD:=Qb (Below.refl wk.heap.size wk)
         have n1:¬ (b5=wk.heap.size):=by have h9:b5<wk.heap.size:=Yc d5;omega
         have n2:¬ (wk.heap.size=b5):=by omega
         have n3:¬ (q=wk.heap.size):=by have h9:q<wk.heap.size:=Yc c1;omega
         have n4:¬ (wk.heap.size=q):=by omega
         go_region_held3 (fun w'=>w'.cell? ⟨b5,off5+k * 2,none⟩=some (.string key)/\w'.cell? ⟨q,g * 3+1,none⟩=some (.int .u64 (la:Int))/\Below wk.heap.size wk w')
          (first | exact hS2.out _ hbD | exact hS2.out _ (Qa hbD (Qc _ _)) | exact hS2.out _ hbZ | exact hS2.out _ (Qa hbZ (Qc _ _)) | exact hS2.out _ (((hbZ.setCell (Nat.le_refl _) _).setCell (Nat.le_refl _) _).setCell (Nat.le_refl _) _) | exact hS2.out _ ((((Qa hbZ (Qc _ _)).setCell hbZ.size _).setCell hbZ.size _).setCell hbZ.size _))
          ((go_at_call 48;(with_reducible refine (hSn.out _ (‹_/\_/\Below wk.heap.size wk _›.2.2)).mono ?_);rintro e w3 ⟨rfl,hb⟩;have hbZ:=Qa (‹_/\_/\Below wk.heap.size wk _›.2.2) hb;(try have Y:=Xf.newd hb);(try (obtain ⟨y0,y1,y2,f0,f1,f2⟩:=Y.facts))))
         all_goals
          go_wp2
          go_meet
          first
           | exact ⟨rfl,((hbZ.setCell (Nat.le_refl _) _).setCell (Nat.le_refl _) _).setCell (Nat.le_refl _) _⟩
           | exact ⟨rfl,Qa hbZ (Qc _ _)⟩
           | exact ⟨rfl,(((Qa hbZ (Qc _ _)).setCell hbZ.size _).setCell hbZ.size _).setCell hbZ.size _⟩
        case rest =>
         obtain ⟨rfl,hw9⟩:=hcut
         obtain ⟨w9,rfl⟩:∃ wq:World,wq=wc:=⟨_,rfl⟩
         have d6':=keep hw9 d6
         have hE:=Lib.hid (Qa hw8 hw9)
         clear hw8 hw9 d5 d6 c1 hSn hS2
         go_wp2
         go_roundw
         case rel=>exact ⟨k+1,hkH.out,by go_num,hE.out⟩
         case measure=>have:=hkH.out;simp [intOf];omega
       ·have hkd:¬ ((k:Int)<(rs.length:Int)):=by omega
        have c1:=hc1.out _ hw8
        have hF8:Hid (Z5 wk q q v St/\Below q w wk):=⟨hF7.out.1.later hw8,hF7.out.1.bq hF7.out.2 hw8⟩
        have hwA8:=Lib.hid (hwA7.out.later hw8)
        have hfrH:Hid (∀ a,Aw=some a->0<ws.length->¬ QdC q v g a.block):=fun a e _ hk=>by
         have h1:=hfr a e
         have h2:=(HI.out.1.old hg4 hk).2
         omega
        by_cases hw0:ws.length=0
        ·have hwn:ws=[]:=List.eq_nil_of_length_eq_zero hw0
         have hw0i:((ws.length:Nat):Int)=0:=by omega
         obtain ⟨s1,hs1⟩:∃ s1,Hid (s1=if ws.isEmpty then St g else QH (St g) ((St g).last+1) ws):=⟨_,rfl⟩
         have hs1e:s1=St g:=by rw [hs1.out,hwn];rfl
         have hRB1:Hid (s1.last<=15/\(Qq s1.ks).length<=1000):=by
          rw [hs1e]
          have h1:=hRBH.out.la
          have h2:=hRBH.out.it
          exact ⟨by omega,by omega⟩
         obtain ⟨w9,rfl⟩:∃ w9,w9=wk:=⟨_,rfl⟩
         obtain ⟨v9,rfl⟩:∃ v9,v9=v:=⟨_,rfl⟩
         have hF9:Hid (Z5 w9 q q v9 (Z0 St g s1)/\Below q w w9):=by rw [hs1e,Qmr];exact hF8.out
         clear c1 hw8 hF8
         have hIc:Z5 w9 q q v9 (Z0 St g s1)/\Below q w w9:=hF9.out
         have hs1u:Z0 St g s1 g=s1:=Xa
         have c1:w9.cell? ⟨q,g * 3+1,none⟩=some (.int .u64 (s1.last:Int)):=by
          obtain ⟨R,hR,_⟩:=hIc.1.at' hg4
          have:=hR.c1
          rwa [hs1u] at this
         obtain ⟨la1,hla1⟩:∃ x,s1.last=x:=⟨_,rfl⟩
         rw [hla1] at c1
         have hB1:=hRB1.out
         have hlab:la1<=15:=by have:=hB1.1;omega
         by_cases h8:8<la1
         ·have q8:(8:Int)<(la1:Int):=by omega
          have hwr8:IntKind.u64.wrap ((la1:Int)-8)=(la1:Int)-8:=IntWalk.u64_in _ (by omega)
          have hCo:Hid (∀ wz,Below w9.heap.size w9 wz->Calls Tryz.prog 50 #[.pointer (some ⟨q,g * 3,none⟩),.int .u64 ((la1:Int)-8)] wz fun e w'=>(∃ y z,e = .returned (.tuple #[.int .i64 y,.int .i64 z]))/\U6 wz q q v9 g (Z0 (Z0 St g s1) g (Zv s1 (la1-8))) w'):=fun wz hb=>by
           have h1:=(hIc.1.later hb).collect hg4 (by have h1:=hIc.1.hq.2;have h2:=hb.size;omega) (la1-8) (by rw [hs1u];have:=hB1.2;omega)
           rw [hs1u,show ((la1-8:Nat):Int)=(la1:Int)-8 by omega] at h1
           exact h1
          have hpl:Hid (Ym c (QS ol) i (g+1) (Z0 St g (Zv s1 (la1-8)))):=HI.out.2.2.step hgH.out hti.out (by rw [QcJ (hs1.out.trans (by rw [hstg.out,hwsH.out])),hla1,if_pos h8])
          have hIcH:=Lib.hid hIc
          clear h8 hIc hB1 hla1
          go_wp2
          have hbD:=Qb (Below.refl w9.heap.size w9)
          refine wp_region_noPanic ?_
          refine Yp (S:=(fun w'=>w'.cell? ⟨q,g * 3+1,none⟩=some (.int .u64 (la1:Int)))) (ok:=?oKZ1) (v:=?vKZ1) 7 0 (by kernel_rfl) (by kernel_rfl) (by decide) ?hiKZ1 (by kernel_rfl) (by kernel_rfl) (by kernel_rfl) ?hqKZ1 (Or.inl ⟨?hgKZ1,?hyKZ1⟩) (keep hbD c1) (fun hHeld=>?restKZ1)
          case hiKZ1=>(simp only [List.getElem?_toArray,List.getElem?_cons_succ,List.getElem?_cons_zero];rfl)
          case hqKZ1=>exact fun _ _ _ h=>h
          case hgKZ1=>rfl
          case hyKZ1=>(intro w;go_simp;(try with_reducible rfl))
          (try simp only [Act.put,List.setIfInBounds_toArray,List.set_cons_zero,List.set_cons_succ])
          simp only [List.take_succ_cons,List.take_zero,List.drop_succ_cons,List.drop_zero]
          refine wpAnyH_take (i:=1) (oi:=?o1_1) (v:=?v1_1) ?hi1_1 (by kernel_rfl) (by kernel_rfl) (by kernel_rfl) ?hq1_1 (Or.inl ⟨?hg1_1,?hy1_1⟩) hHeld ?rest1_1
          case hi1_1=>(simp only [List.getElem?_toArray,List.getElem?_cons_succ,List.getElem?_cons_zero];rfl)
          case hq1_1=>exact fun _ _ _ h=>h
          case hg1_1=>rfl
          case hy1_1=>(intro w hSw;(try dsimp only at hSw);go_simp;(try with_reducible rfl))
          (try simp only [Act.put,List.setIfInBounds_toArray,List.set_cons_zero,List.set_cons_succ])
          refine wpAnyH_take (i:=2) (oi:=?o2_2) (v:=?v2_2) ?hi2_2 (by kernel_rfl) (by kernel_rfl) (by kernel_rfl) ?hq2_2 (Or.inl ⟨?hg2_2,?hy2_2⟩) hHeld ?rest2_2
          case hi2_2=>(simp only [List.getElem?_toArray,List.getElem?_cons_succ,List.getElem?_cons_zero];rfl)
          case hq2_2=>exact fun _ _ _ h=>h
          case hg2_2=>rfl
          case hy2_2=>(intro w hSw;(try dsimp only at hSw);go_simp;(try with_reducible rfl))
          (try simp only [Act.put,List.setIfInBounds_toArray,List.set_cons_zero,List.set_cons_succ])
          refine wpAnyH_take (i:=3) (oi:=?o3_3) (v:=?v3_3) ?hi3_3 (by kernel_rfl) (by kernel_rfl) (by kernel_rfl) ?hq3_3 (Or.inl ⟨?hg3_3,?hy3_3⟩) hHeld ?rest3_3
          case hi3_3=>(simp only [List.getElem?_toArray,List.getElem?_cons_succ,List.getElem?_cons_zero];rfl)
          case hq3_3=>exact fun _ _ _ h=>h
          case hg3_3=>rfl
          case hy3_3=>(intro w hSw;(try dsimp only at hSw);go_simp;(try with_reducible rfl))
          (try simp only [Act.put,List.setIfInBounds_toArray,List.set_cons_zero,List.set_cons_succ])
          refine wpAnyH_take (i:=4) (oi:=?o4_4) (v:=?v4_4) ?hi4_4 (by kernel_rfl) (by kernel_rfl) (by kernel_rfl) ?hq4_4 (Or.inl ⟨?hg4_4,?hy4_4⟩) hHeld ?rest4_4
          case hi4_4=>(simp only [List.getElem?_toArray,List.getElem?_cons_succ,List.getElem?_cons_zero];rfl)
          case hq4_4=>exact fun _ _ _ h=>h
          case hg4_4=>rfl
          case hy4_4=>(intro w hSw;(try dsimp only at hSw);go_simp;(try with_reducible rfl))
          (try simp only [Act.put,List.setIfInBounds_toArray,List.set_cons_zero,List.set_cons_succ])
          refine wpAnyH_take (i:=5) (oi:=?o5_5) (v:=?v5_5) ?hi5_5 (by kernel_rfl) (by kernel_rfl) (by kernel_rfl) ?hq5_5 (Or.inl ⟨?hg5_5,?hy5_5⟩) hHeld ?rest5_5
          case hi5_5=>(simp only [List.getElem?_toArray,List.getElem?_cons_succ,List.getElem?_cons_zero];rfl)
          case hq5_5=>exact fun _ _ _ h=>h
          case hg5_5=>rfl
          case hy5_5=>(intro w hSw;(try dsimp only at hSw);go_simp;(try with_reducible rfl))
          (try simp only [Act.put,List.setIfInBounds_toArray,List.set_cons_zero,List.set_cons_succ])
          refine wpAnyH_take (i:=6) (oi:=?o6_6) (v:=?v6_6) ?hi6_6 (by kernel_rfl) (by kernel_rfl) (by kernel_rfl) ?hq6_6 (Or.inl ⟨?hg6_6,?hy6_6⟩) hHeld ?rest6_6
          case hi6_6=>(simp only [List.getElem?_toArray,List.getElem?_cons_succ,List.getElem?_cons_zero];rfl)
          case hq6_6=>exact fun _ _ _ h=>h
          case hg6_6=>rfl
          case hy6_6=>(intro w hSw;(try dsimp only at hSw);go_simp;(try with_reducible rfl))
          (try simp only [Act.put,List.setIfInBounds_toArray,List.set_cons_zero,List.set_cons_succ])
          refine wpAnyH_done (by kernel_rfl) ?_ _
          show wpList _ _ _ _ _ _
          go_wp2_with (go_at_call 50;(with_reducible refine (hCo.out _ hbD).mono ?_);rintro e w10 ⟨⟨_,_,rfl⟩,v10,hF10,ho10⟩)
          refine NoPanic.normal ?_
          have hE:Hid (Z5 w10 q q v10 (Z0 St g (Zv s1 (la1-8)))/\Below q w w10/\Ym c (QS ol) i (g+1) (Z0 St g (Zv s1 (la1-8)))):=⟨by
           have e:Z0 (Z0 St g s1) g (Zv s1 (la1-8))=Z0 St g (Zv s1 (la1-8)):=QeQ
           rw [<- e];exact hF10,(hIcH.out.1.bq hIcH.out.2 hbD).trans (ho10.below (by have h1:=hIcH.out.1.hq.2;have h2:=hbD.size;omega) (fun k hk=>((hIcH.out.1.later hbD).old hg4 hk).1)),hpl.out⟩
          clear hCo hF10 ho10 hHeld c1 hIcH hbD
          go_wp2
          go_roundw
          case rel=>exact ⟨g+1,v10,_,hgH.out,by go_num,hE⟩
          case measure=>have:=hgH.out;simp [intOf];omega
         ·have q8:¬ ((8:Int)<(la1:Int)):=by omega
          have hE:Hid (Z5 w9 q q v9 (Z0 St g s1)/\Below q w w9/\Ym c (QS ol) i (g+1) (Z0 St g s1)):=⟨hIc.1,hIc.2,HI.out.2.2.step hgH.out hti.out (by rw [QcJ (hs1.out.trans (by rw [hstg.out,hwsH.out])),hla1,if_neg h8])⟩
          clear hIc hB1 hla1
          go_wp2
          go_roundw
          case rel=>exact ⟨g+1,v9,_,hgH.out,by go_num,hE⟩
          case measure=>have:=hgH.out;simp [intOf];omega
        ·have hw0i:(0:Int)<(ws.length:Int):=by omega
         have hw0n:¬ ws=[]:=fun e=>hw0 (by rw [e];rfl)
         have hwr1:IntKind.u64.wrap ((la:Int)+1)=(la:Int)+1:=IntWalk.u64_in _ (by omega)
         obtain ⟨s1,hs1⟩:∃ s1,Hid (s1=if ws.isEmpty then St g else QH (St g) ((St g).last+1) ws):=⟨_,rfl⟩
         have hs1e:s1=QH (St g) (la+1) ws:=by
          have:ws.isEmpty=false:=by simpa using hw0n
          rw [hs1.out,this,hlaH.out];rfl
         have hRB1:Hid (s1.last<=15/\(Qq s1.ks).length<=1000):=by
          rw [hs1e]
          have h1:=hRBH.out.la
          have h2:=hRBH.out.it
          have h3:=Qa1 hRBH.out.lo.ok (la+1) ws
          have h4:=Qav (s:=St g) hwo2.out
          rw [hlaH.out] at h4
          refine ⟨by rw [h4];show la+1<=15;omega,by omega⟩
         have hAp:Hid (∀ wz,Below wk.heap.size wk wz->Calls Tryz.prog 49 #[.pointer (some ⟨q,g * 3,none⟩),.int .u64 ((la:Int)+1),.slice Aw ws.length cw] wz fun e w'=>(∃ z,e = .returned (.int .i64 z))/\U6 wz q q v g (Z0 St g s1) w'):=fun wz hb=>by
          have h1:=(hF8.out.1.later hb).apply hg4 (by have h1:=hF8.out.1.hq.2;have h2:=hb.size;omega) (la+1) ws Aw cw (hwA8.out.later hb) hfrH.out hwok.out (by have:=hRBH.out.it;omega)
          rw [<- hs1e,show ((la+1:Nat):Int)=(la:Int)+1 by omega] at h1
          exact h1
         have hbD:=Qb (Below.refl wk.heap.size wk)
         clear hw8
         go_wp2
         refine wp_region_noPanic ?_
         refine Yp (S:=(fun w'=>w'.cell? ⟨q,g * 3+1,none⟩=some (.int .u64 (la:Int)))) (ok:=?oKZ2) (v:=?vKZ2) 8 0 (by kernel_rfl) (by kernel_rfl) (by decide) ?hiKZ2 (by kernel_rfl) (by kernel_rfl) (by kernel_rfl) ?hqKZ2 (Or.inl ⟨?hgKZ2,?hyKZ2⟩) (keep hbD c1) (fun hHeld=>?restKZ2)
         case hiKZ2=>(simp only [List.getElem?_toArray,List.getElem?_cons_succ,List.getElem?_cons_zero];rfl)
         case hqKZ2=>exact fun _ _ _ h=>h
         case hgKZ2=>rfl
         case hyKZ2=>(intro w;go_simp;(try with_reducible rfl))
         (try simp only [Act.put,List.setIfInBounds_toArray,List.set_cons_zero,List.set_cons_succ])
         simp only [List.take_succ_cons,List.take_zero,List.drop_succ_cons,List.drop_zero]
         refine wpAnyH_take (i:=1) (oi:=?o1_7) (v:=?v1_7) ?hi1_7 (by kernel_rfl) (by kernel_rfl) (by kernel_rfl) ?hq1_7 (Or.inl ⟨?hg1_7,?hy1_7⟩) hHeld ?rest1_7
         case hi1_7=>(simp only [List.getElem?_toArray,List.getElem?_cons_succ,List.getElem?_cons_zero];rfl)
         case hq1_7=>exact fun _ _ _ h=>h
         case hg1_7=>rfl
         case hy1_7=>(intro w hSw;(try dsimp only at hSw);go_simp;(try with_reducible rfl))
         (try simp only [Act.put,List.setIfInBounds_toArray,List.set_cons_zero,List.set_cons_succ])
         refine wpAnyH_take (i:=2) (oi:=?o2_8) (v:=?v2_8) ?hi2_8 (by kernel_rfl) (by kernel_rfl) (by kernel_rfl) ?hq2_8 (Or.inl ⟨?hg2_8,?hy2_8⟩) hHeld ?rest2_8
         case hi2_8=>(simp only [List.getElem?_toArray,List.getElem?_cons_succ,List.getElem?_cons_zero];rfl)
         case hq2_8=>exact fun _ _ _ h=>h
         case hg2_8=>rfl
         case hy2_8=>(intro w hSw;(try dsimp only at hSw);go_simp;(try with_reducible rfl))
         (try simp only [Act.put,List.setIfInBounds_toArray,List.set_cons_zero,List.set_cons_succ])
         refine wpAnyH_take (i:=3) (oi:=?o3_9) (v:=?v3_9) ?hi3_9 (by kernel_rfl) (by kernel_rfl) (by kernel_rfl) ?hq3_9 (Or.inl ⟨?hg3_9,?hy3_9⟩) hHeld ?rest3_9
         case hi3_9=>(simp only [List.getElem?_toArray,List.getElem?_cons_succ,List.getElem?_cons_zero];rfl)
         case hq3_9=>exact fun _ _ _ h=>h
         case hg3_9=>rfl
         case hy3_9=>(intro w hSw;(try dsimp only at hSw);go_simp;(try with_reducible rfl))
         (try simp only [Act.put,List.setIfInBounds_toArray,List.set_cons_zero,List.set_cons_succ])
         refine wpAnyH_take (i:=4) (oi:=?o4_10) (v:=?v4_10) ?hi4_10 (by kernel_rfl) (by kernel_rfl) (by kernel_rfl) ?hq4_10 (Or.inl ⟨?hg4_10,?hy4_10⟩) hHeld ?rest4_10
         case hi4_10=>(simp only [List.getElem?_toArray,List.getElem?_cons_succ,List.getElem?_cons_zero];rfl)
         case hq4_10=>exact fun _ _ _ h=>h
         case hg4_10=>rfl
         case hy4_10=>(intro w hSw;(try dsimp only at hSw);go_simp;(try with_reducible rfl))
         (try simp only [Act.put,List.setIfInBounds_toArray,List.set_cons_zero,List.set_cons_succ])
         refine wpAnyH_take (i:=5) (oi:=?o5_11) (v:=?v5_11) ?hi5_11 (by kernel_rfl) (by kernel_rfl) (by kernel_rfl) ?hq5_11 (Or.inl ⟨?hg5_11,?hy5_11⟩) hHeld ?rest5_11
         case hi5_11=>(simp only [List.getElem?_toArray,List.getElem?_cons_succ,List.getElem?_cons_zero];rfl)
         case hq5_11=>exact fun _ _ _ h=>h
         case hg5_11=>rfl
         case hy5_11=>(intro w hSw;(try dsimp only at hSw);go_simp;(try with_reducible rfl))
         (try simp only [Act.put,List.setIfInBounds_toArray,List.set_cons_zero,List.set_cons_succ])
         refine wpAnyH_take (i:=6) (oi:=?o6_12) (v:=?v6_12) ?hi6_12 (by kernel_rfl) (by kernel_rfl) (by kernel_rfl) ?hq6_12 (Or.inl ⟨?hg6_12,?hy6_12⟩) hHeld ?rest6_12
         case hi6_12=>(simp only [List.getElem?_toArray,List.getElem?_cons_succ,List.getElem?_cons_zero];rfl)
         case hq6_12=>exact fun _ _ _ h=>h
         case hg6_12=>rfl
         case hy6_12=>(intro w hSw;(try dsimp only at hSw);go_simp;(try with_reducible rfl))
         (try simp only [Act.put,List.setIfInBounds_toArray,List.set_cons_zero,List.set_cons_succ])
         refine wpAnyH_take (i:=7) (oi:=?o7_13) (v:=?v7_13) ?hi7_13 (by kernel_rfl) (by kernel_rfl) (by kernel_rfl) ?hq7_13 (Or.inl ⟨?hg7_13,?hy7_13⟩) hHeld ?rest7_13
         case hi7_13=>(simp only [List.getElem?_toArray,List.getElem?_cons_succ,List.getElem?_cons_zero];rfl)
         case hq7_13=>exact fun _ _ _ h=>h
         case hg7_13=>rfl
         case hy7_13=>(intro w hSw;(try dsimp only at hSw);go_simp;(try with_reducible rfl))
         (try simp only [Act.put,List.setIfInBounds_toArray,List.set_cons_zero,List.set_cons_succ])
         refine wpAnyH_done (by kernel_rfl) ?_ _
         show wpList _ _ _ _ _ _
         go_wp2_with (go_at_call 49;(with_reducible refine (hAp.out _ hbD).mono ?_);rintro e w9 ⟨⟨_,rfl⟩,v9,hF9',ho9⟩)
         refine NoPanic.normal ?_
         have hF9:Hid (Z5 w9 q q v9 (Z0 St g s1)/\Below q w w9):=⟨hF9',(hF8.out.1.bq hF8.out.2 hbD).trans (ho9.below (by have h1:=hF8.out.1.hq.2;have h2:=hbD.size;omega) (fun k hk=>((hF8.out.1.later hbD).old hg4 hk).1))⟩
         clear c1 hAp hF9' ho9 hHeld hbD hF8
         have hIc:Z5 w9 q q v9 (Z0 St g s1)/\Below q w w9:=hF9.out
         have hs1u:Z0 St g s1 g=s1:=Xa
         have c1:w9.cell? ⟨q,g * 3+1,none⟩=some (.int .u64 (s1.last:Int)):=by
          obtain ⟨R,hR,_⟩:=hIc.1.at' hg4
          have:=hR.c1
          rwa [hs1u] at this
         obtain ⟨la1,hla1⟩:∃ x,s1.last=x:=⟨_,rfl⟩
         rw [hla1] at c1
         have hB1:=hRB1.out
         have hlab:la1<=15:=by have:=hB1.1;omega
         by_cases h8:8<la1
         ·have q8:(8:Int)<(la1:Int):=by omega
          have hwr8:IntKind.u64.wrap ((la1:Int)-8)=(la1:Int)-8:=IntWalk.u64_in _ (by omega)
          have hCo:Hid (∀ wz,Below w9.heap.size w9 wz->Calls Tryz.prog 50 #[.pointer (some ⟨q,g * 3,none⟩),.int .u64 ((la1:Int)-8)] wz fun e w'=>(∃ y z,e = .returned (.tuple #[.int .i64 y,.int .i64 z]))/\U6 wz q q v9 g (Z0 (Z0 St g s1) g (Zv s1 (la1-8))) w'):=fun wz hb=>by
           have h1:=(hIc.1.later hb).collect hg4 (by have h1:=hIc.1.hq.2;have h2:=hb.size;omega) (la1-8) (by rw [hs1u];have:=hB1.2;omega)
           rw [hs1u,show ((la1-8:Nat):Int)=(la1:Int)-8 by omega] at h1
           exact h1
          have hpl:Hid (Ym c (QS ol) i (g+1) (Z0 St g (Zv s1 (la1-8)))):=HI.out.2.2.step hgH.out hti.out (by rw [QcJ (hs1.out.trans (by rw [hstg.out,hwsH.out])),hla1,if_pos h8])
          have hIcH:=Lib.hid hIc
          clear h8 hIc hB1 hla1
          go_wp2
          have hbD:=Qb (Below.refl w9.heap.size w9)
          refine wp_region_noPanic ?_
          refine Yp (S:=(fun w'=>w'.cell? ⟨q,g * 3+1,none⟩=some (.int .u64 (la1:Int)))) (ok:=?oKZ3) (v:=?vKZ3) 7 0 (by kernel_rfl) (by kernel_rfl) (by decide) ?hiKZ3 (by kernel_rfl) (by kernel_rfl) (by kernel_rfl) ?hqKZ3 (Or.inl ⟨?hgKZ3,?hyKZ3⟩) (keep hbD c1) (fun hHeld=>?restKZ3)
          case hiKZ3=>(simp only [List.getElem?_toArray,List.getElem?_cons_succ,List.getElem?_cons_zero];rfl)
          case hqKZ3=>exact fun _ _ _ h=>h
          case hgKZ3=>rfl
          case hyKZ3=>(intro w;go_simp;(try with_reducible rfl))
          (try simp only [Act.put,List.setIfInBounds_toArray,List.set_cons_zero,List.set_cons_succ])
          simp only [List.take_succ_cons,List.take_zero,List.drop_succ_cons,List.drop_zero]
          refine wpAnyH_take (i:=1) (oi:=?o1_14) (v:=?v1_14) ?hi1_14 (by kernel_rfl) (by kernel_rfl) (by kernel_rfl) ?hq1_14 (Or.inl ⟨?hg1_14,?hy1_14⟩) hHeld ?rest1_14
          case hi1_14=>(simp only [List.getElem?_toArray,List.getElem?_cons_succ,List.getElem?_cons_zero];rfl)
          case hq1_14=>exact fun _ _ _ h=>h
          case hg1_14=>rfl
          case hy1_14=>(intro w hSw;(try dsimp only at hSw);go_simp;(try with_reducible rfl))
          (try simp only [Act.put,List.setIfInBounds_toArray,List.set_cons_zero,List.set_cons_succ])
          refine wpAnyH_take (i:=2) (oi:=?o2_15) (v:=?v2_15) ?hi2_15 (by kernel_rfl) (by kernel_rfl) (by kernel_rfl) ?hq2_15 (Or.inl ⟨?hg2_15,?hy2_15⟩) hHeld ?rest2_15
          case hi2_15=>(simp only [List.getElem?_toArray,List.getElem?_cons_succ,List.getElem?_cons_zero];rfl)
          case hq2_15=>exact fun _ _ _ h=>h
          case hg2_15=>rfl
          case hy2_15=>(intro w hSw;(try dsimp only at hSw);go_simp;(try with_reducible rfl))
          (try simp only [Act.put,List.setIfInBounds_toArray,List.set_cons_zero,List.set_cons_succ])
          refine wpAnyH_take (i:=3) (oi:=?o3_16) (v:=?v3_16) ?hi3_16 (by kernel_rfl) (by kernel_rfl) (by kernel_rfl) ?hq3_16 (Or.inl ⟨?hg3_16,?hy3_16⟩) hHeld ?rest3_16
          case hi3_16=>(simp only [List.getElem?_toArray,List.getElem?_cons_succ,List.getElem?_cons_zero];rfl)
          case hq3_16=>exact fun _ _ _ h=>h
          case hg3_16=>rfl
          case hy3_16=>(intro w hSw;(try dsimp only at hSw);go_simp;(try with_reducible rfl))
          (try simp only [Act.put,List.setIfInBounds_toArray,List.set_cons_zero,List.set_cons_succ])
          refine wpAnyH_take (i:=4) (oi:=?o4_17) (v:=?v4_17) ?hi4_17 (by kernel_rfl) (by kernel_rfl) (by kernel_rfl) ?hq4_17 (Or.inl ⟨?hg4_17,?hy4_17⟩) hHeld ?rest4_17
          case hi4_17=>(simp only [List.getElem?_toArray,List.getElem?_cons_succ,List.getElem?_cons_zero];rfl)
          case hq4_17=>exact fun _ _ _ h=>h
          case hg4_17=>rfl
          case hy4_17=>(intro w hSw;(try dsimp only at hSw);go_simp;(try with_reducible rfl))
          (try simp only [Act.put,List.setIfInBounds_toArray,List.set_cons_zero,List.set_cons_succ])
          refine wpAnyH_take (i:=5) (oi:=?o5_18) (v:=?v5_18) ?hi5_18 (by kernel_rfl) (by kernel_rfl) (by kernel_rfl) ?hq5_18 (Or.inl ⟨?hg5_18,?hy5_18⟩) hHeld ?rest5_18
          case hi5_18=>(simp only [List.getElem?_toArray,List.getElem?_cons_succ,List.getElem?_cons_zero];rfl)
          case hq5_18=>exact fun _ _ _ h=>h
          case hg5_18=>rfl
          case hy5_18=>(intro w hSw;(try dsimp only at hSw);go_simp;(try with_reducible rfl))
          (try simp only [Act.put,List.setIfInBounds_toArray,List.set_cons_zero,List.set_cons_succ])
          refine wpAnyH_take (i:=6) (oi:=?o6_19) (v:=?v6_19) ?hi6_19 (by kernel_rfl) (by kernel_rfl) (by kernel_rfl) ?hq6_19 (Or.inl ⟨?hg6_19,?hy6_19⟩) hHeld ?rest6_19
          case hi6_19=>(simp only [List.getElem?_toArray,List.getElem?_cons_succ,List.getElem?_cons_zero];rfl)
          case hq6_19=>exact fun _ _ _ h=>h
          case hg6_19=>rfl
          case hy6_19=>(intro w hSw;(try dsimp only at hSw);go_simp;(try with_reducible rfl))
          (try simp only [Act.put,List.setIfInBounds_toArray,List.set_cons_zero,List.set_cons_succ])
          refine wpAnyH_done (by kernel_rfl) ?_ _
          show wpList _ _ _ _ _ _
          go_wp2_with (go_at_call 50;(with_reducible refine (hCo.out _ hbD).mono ?_);rintro e w10 ⟨⟨_,_,rfl⟩,v10,hF10,ho10⟩)
          refine NoPanic.normal ?_
          have hE:Hid (Z5 w10 q q v10 (Z0 St g (Zv s1 (la1-8)))/\Below q w w10/\Ym c (QS ol) i (g+1) (Z0 St g (Zv s1 (la1-8)))):=⟨by
           have e:Z0 (Z0 St g s1) g (Zv s1 (la1-8))=Z0 St g (Zv s1 (la1-8)):=QeQ
           rw [<- e];exact hF10,(hIcH.out.1.bq hIcH.out.2 hbD).trans (ho10.below (by have h1:=hIcH.out.1.hq.2;have h2:=hbD.size;omega) (fun k hk=>((hIcH.out.1.later hbD).old hg4 hk).1)),hpl.out⟩
          clear hCo hF10 ho10 hHeld c1 hIcH hbD
          go_wp2
          go_roundw
          case rel=>exact ⟨g+1,v10,_,hgH.out,by go_num,hE⟩
          case measure=>have:=hgH.out;simp [intOf];omega
         ·have q8:¬ ((8:Int)<(la1:Int)):=by omega
          have hE:Hid (Z5 w9 q q v9 (Z0 St g s1)/\Below q w w9/\Ym c (QS ol) i (g+1) (Z0 St g s1)):=⟨hIc.1,hIc.2,HI.out.2.2.step hgH.out hti.out (by rw [QcJ (hs1.out.trans (by rw [hstg.out,hwsH.out])),hla1,if_neg h8])⟩
          clear hIc hB1 hla1
          go_wp2
          go_roundw
          case rel=>exact ⟨g+1,v9,_,hgH.out,by go_num,hE⟩
          case measure=>have:=hgH.out;simp [intOf];omega
    ·obtain rfl:g=c.reps.length:=by omega
     have hE:Hid (Z5 wj q q v St/\Below q w wj/\Ym c (QS ol) (i+1) 0 St):=⟨HI.out.1,HI.out.2.1,HI.out.2.2.next⟩
     clear HI hlt hg eM
     go_wp2
     go_roundw
     case rel=>exact ⟨i+1,v,St,hiH.out,by go_num,hE⟩
     case measure=>have:=hiH.out;simp [intOf];omega
  ·obtain rfl:i=ol.length:=by omega
   have hSt:Hid (∀ g:Nat,g<c.reps.length->St g=(W.m g).s/\Qcr (St g) 14/\Qax c g (St g)):=fun g hg=>by
    have h4:g<4:=by have:=hr4.out.2;omega
    have h1:=HI.out.2.2
    rw [<- hol.out.1] at h1
    have h2:=h1.end hg h4
    have h3:=Qmo hsH.out.f hsH.out.l (QS ol).length (g:Int) (c:=c)
    rw [List.take_length] at h3
    exact ⟨by rw [h2,hsH.out.st g hg],by rw [h2];exact h3,by rw [h2];exact Qmq hfc _ hsH.out.f⟩
   have hF:=Lib.hid (And.intro HI.out.1 HI.out.2.1)
   clear HI hlt hi
   go_wp2
   go_loopw [13] (fun x wr=>∃ g:Nat,g<=c.reps.length/\x = .int .i64 g/\Below wi.heap.size wi wr) (fun x _=>c.reps.length-(intOf x).toNat)
   case atStart=>exact ⟨0,Nat.zero_le _,rfl,Below.refl _ _⟩
   case round =>
    obtain ⟨g,hg,rfl,hw2⟩:=hrel
    obtain ⟨wj,rfl⟩:∃ wi:World,wi=wr:=⟨_,rfl⟩
    have hbw:Below w.heap.size w wj:=by
     have:=hF.out.1.bq hF.out.2 hw2
     rw [hqw.out];exact this
    obtain ⟨_,_,m2,_⟩:=(hI.out.later hbw).cs
    obtain ⟨Am,km,eM,hM⟩:=(hI.out.later hbw).mach
    rw [eM] at m2
    by_cases hlt:g<c.reps.length
    ·have hgi:(g:Int)<(c.reps.length:Int):=by omega
     have hg0:(0:Int)<=(g:Int):=by omega
     have hg4:g<4:=by have:=hr4.out.2;omega
     have hg4i:(g:Int)<4:=by omega
     have hgH:=Lib.hid hlt
     obtain ⟨bm,om,rfl,_,p0⟩:=hM g hlt
     obtain ⟨sg,hsg⟩:∃ sg,St g=sg:=⟨_,rfl⟩
     have hsgH:=Lib.hid hsg
     obtain ⟨hse,hsb,hsh⟩:=hSt.out g hlt
     rw [hsg] at hse hsb hsh
     obtain ⟨la,hla⟩:∃ la,sg.last=la:=⟨_,rfl⟩
     have hcs:Hid (∃ (K:Option Addr) (cap:Nat),∀ wz,Below wj.heap.size wj wz->wz.cell? ⟨q,g * 3,none⟩=some (.slice K (Qq sg.ks).length cap)/\Um wz K (Qq sg.ks)/\wz.cell? ⟨q,g * 3+1,none⟩=some (.int .u64 (la:Int))):=by
      obtain ⟨R,hR,_⟩:=(hF.out.1.later hw2).at' hg4
      rw [hsg] at hR
      obtain ⟨K,cap,hv,_,hK⟩:=QaQ hR.row
      have h0:=hR.c0
      have h1:=hR.c1
      rw [hv] at h0
      rw [hla] at h1
      exact ⟨K,cap,fun wz hb=>⟨keep hb h0,hK.later hb,keep hb h1⟩⟩
     obtain ⟨K,cap,hcs⟩:=hcs.out
     have hcsH:=Lib.hid hcs
     have hkey:Hid (∀ x ∈ Qq sg.ks,QO c x.key=g/\x.key.size<=12):=fun x hx=>⟨Qku hsh hx,by
      rw [Qq,List.mem_flatMap] at hx
      obtain ⟨p,hp,hx⟩:=hx
      rw [Z8,List.mem_map] at hx
      obtain ⟨y,_,rfl⟩:=hx
      have h1:=hsb.lo.ok.key p hp
      simp only [Yb,Bool.and_eq_true,decide_eq_true_eq] at h1
      exact h1.1.2⟩
     have hseH:=Lib.hid hse
     have hsbH:=Lib.hid hsb
     have hlaH:=Lib.hid hla
     have hil:(Qq sg.ks).length<=100:=by have:=hsb.it;omega
     clear hlt hg hM eM hsg hse hsb hsh hcs hla
     go_wp2
     go_loopw [14] (fun x wr=>∃ k:Nat,k<=(Qq sg.ks).length/\x = .int .i64 k/\Below wj.heap.size wj wr) (fun x _=>(Qq sg.ks).length-(intOf x).toNat)
     case atStart=>exact ⟨0,Nat.zero_le _,rfl,Below.refl _ _⟩
     case round =>
      obtain ⟨k,hk,rfl,hw3⟩:=hrel
      obtain ⟨wm,rfl⟩:∃ wi:World,wi=wr:=⟨_,rfl⟩
      obtain ⟨c0,hK,c1⟩:=hcsH.out _ hw3
      by_cases hlt:k<(Qq sg.ks).length
      ·have hki:(k:Int)<((Qq sg.ks).length:Int):=by omega
       have hk0:(0:Int)<=(k:Int):=by omega
       have hkH:=Lib.hid hlt
       have hkb:k<100:=by omega
       obtain ⟨b5,off5,key,yz,ym,yt,yn,rfl,d5,_,_,_,_,HY⟩:=hK.at' hlt
       have hx:(⟨key,⟨yz,ym,yt⟩,yn⟩:It) ∈ Qq sg.ks:=by rw [<- HY.out,List.getD_eq_getElem?_getD,List.getElem?_eq_getElem hlt];exact List.getElem_mem hlt
       obtain ⟨hhome,hks⟩:=hkey.out _ hx
       have hgl:(getK sg.ks key).length<=900000:=Nat.le_trans (Qbc _ _) (by omega)
       obtain ⟨vv,hvv⟩:∃ vv,Z3 (getK sg.ks key) la=vv:=⟨_,rfl⟩
       have hbw3:Below w.heap.size w wm:=Qa hbw hw3
       have hGt:Hid (∀ wz,Below wm.heap.size wm wz->Calls Tryz.prog 23 #[.pointer (some ⟨F.ps g,0,none⟩),.string key] wz (QhZ wz vv)):=fun wz hb=>by
        obtain ⟨E,ov,os,hm⟩:=((hI.out.later hbw3).later hb).m g hgH.out
        have h1:=Qpe hm.m (key:=key) (Nat.le_trans (show key.size<=12 from hks) (by decide)) (by rw [<- hseH.out];exact hgl)
        rw [Qfi,if_pos hhome, <- hseH.out,KN,if_neg (by have:=hsbH.out.lo.ok.low;omega),hlaH.out,hvv] at h1
        exact h1
       have hSn:Hid (∀ wz,Below wm.heap.size wm wz->Calls Tryz.prog 48 #[.pointer (some ⟨q,g * 3,none⟩),.string key,.int .u64 (la:Int)] wz (KY wz vv)):=fun wz hb=>by
        have h1:=(((hF.out.1.later hw2).later hw3).later hb).seen hg4 key la (by rw [hsgH.out];omega)
        rw [hsgH.out,hvv] at h1
        exact h1
       have m2':=keep hw3 m2
       have p0':=keep hw3 p0
       have hSg:Hid (∀ w',Below wm.heap.size wm w'->(w'.cell? ⟨b,2,none⟩=some (.slice (some ⟨bm,om,none⟩) c.reps.length km)/\w'.cell? ⟨bm,om+g,none⟩=some (.pointer (some ⟨F.ps g,0,none⟩))/\w'.cell? ⟨q,g * 3,none⟩=some (.slice (some ⟨b5,off5,none⟩) (Qq sg.ks).length cap)/\w'.cell? ⟨b5,off5+k * 5,none⟩=some (.string key)/\Below wm.heap.size wm w')):=fun w' hb=>⟨keep hb m2',keep hb p0',keep hb c0,keep hb d5,hb⟩
       have hd5:=Lib.hid d5
       have hc0:=Lib.hid c0
       have hc1:=Lib.hid c1
       clear hlt hk hK hx hhome hks hgl hvv hbw3
       go_wp2
       go_cut [15,16] (fun s1 s2 wx=>∃ p,s1 = .pointer (some ⟨p,0,none⟩)/\s2 = .int .u64 (vv.num:Int)/\Xf wx p (.int .i64 vv.val.kind) (.int .u64 (vv.val.bits:Int)) (.string vv.val.text)/\Below wm.heap.size wm wx)
       case first =>
        have hbD:=Qb (Below.refl wm.heap.size wm)
        go_region_held3 (fun w'=>w'.cell? ⟨b,2,none⟩=some (.slice (some ⟨bm,om,none⟩) c.reps.length km)/\w'.cell? ⟨bm,om+g,none⟩=some (.pointer (some ⟨F.ps g,0,none⟩))/\w'.cell? ⟨q,g * 3,none⟩=some (.slice (some ⟨b5,off5,none⟩) (Qq sg.ks).length cap)/\w'.cell? ⟨b5,off5+k * 5,none⟩=some (.string key)/\Below wm.heap.size wm w')
         (first | exact hSg.out _ hbD | exact hSg.out _ (Qa hbD (Qc _ _)) | exact hSg.out _ hbZ | exact hSg.out _ (Qa hbZ (Qc _ _)) | exact hSg.out _ (((hbZ.setCell (Nat.le_refl _) _).setCell (Nat.le_refl _) _).setCell (Nat.le_refl _) _) | exact hSg.out _ ((((Qa hbZ (Qc _ _)).setCell hbZ.size _).setCell hbZ.size _).setCell hbZ.size _))
         ((go_at_call 23;(with_reducible refine (hGt.out _ (‹_/\_/\_/\_/\Below wm.heap.size wm _›.2.2.2.2)).mono ?_);rintro e w3 ⟨rfl,hb⟩;have hbZ:=Qa (‹_/\_/\_/\_/\Below wm.heap.size wm _›.2.2.2.2) hb;(try have Y:=Xf.newd hb);(try (obtain ⟨y0,y1,y2,f0,f1,f2⟩:=Y.facts))))
        all_goals
         go_wp2
         go_meet
         first
          | exact ⟨_,rfl,rfl,Xf.set17 Y _ _ _,((hbZ.setCell (Nat.le_refl _) _).setCell (Nat.le_refl _) _).setCell (Nat.le_refl _) _⟩
          | exact ⟨_,rfl,rfl,⟨_,heap_alloc_new w3 _⟩,Qa hbZ (Qc _ _)⟩
       case rest =>
        obtain ⟨pa,rfl,rfl,hBa,hw5⟩:=hcut
        obtain ⟨wn,rfl⟩:∃ wq:World,wq=wc:=⟨_,rfl⟩
        have hc0n:=keep hw5 hc0.out
        have hc1n:=keep hw5 hc1.out
        have hd5n:=keep hw5 hd5.out
        have hSnn:Hid (∀ wz,Below wn.heap.size wn wz->Calls Tryz.prog 48 #[.pointer (some ⟨q,g * 3,none⟩),.string key,.int .u64 (la:Int)] wz (KY wz vv)):=fun wz hb=>hSn.out _ (Qa hw5 hb)
        replace hSg:Hid (∀ w',Below wn.heap.size wn w'->(w'.cell? ⟨q,g * 3,none⟩=some (.slice (some ⟨b5,off5,none⟩) (Qq sg.ks).length cap)/\w'.cell? ⟨b5,off5+k * 5,none⟩=some (.string key)/\w'.cell? ⟨q,g * 3+1,none⟩=some (.int .u64 (la:Int))/\Below wn.heap.size wn w')):=fun w' hb=>⟨keep hb hc0n,keep hb hd5n,keep hb hc1n,hb⟩
        have hBaH:=Lib.hid hBa
        have hw35:=Lib.hid (Qa hw3 hw5)
        clear hBa hw5 hGt hSn hc0 hc1 hd5 c0 c1 d5 m2' p0' hw3
        go_wp2
        go_cut [17,18] (fun s1 s2 wx=>∃ p,s1 = .pointer (some ⟨p,0,none⟩)/\s2 = .int .u64 (vv.num:Int)/\Xf wx p (.int .i64 vv.val.kind) (.int .u64 (vv.val.bits:Int)) (.string vv.val.text)/\Below wn.heap.size wn wx)
        case first =>
         have hbD:=Qb (Below.refl wn.heap.size wn)
         go_region_held3 (fun w'=>w'.cell? ⟨q,g * 3,none⟩=some (.slice (some ⟨b5,off5,none⟩) (Qq sg.ks).length cap)/\w'.cell? ⟨b5,off5+k * 5,none⟩=some (.string key)/\w'.cell? ⟨q,g * 3+1,none⟩=some (.int .u64 (la:Int))/\Below wn.heap.size wn w')
          (first | exact hSg.out _ hbD | exact hSg.out _ (Qa hbD (Qc _ _)) | exact hSg.out _ hbZ | exact hSg.out _ (Qa hbZ (Qc _ _)) | exact hSg.out _ (((hbZ.setCell (Nat.le_refl _) _).setCell (Nat.le_refl _) _).setCell (Nat.le_refl _) _) | exact hSg.out _ ((((Qa hbZ (Qc _ _)).setCell hbZ.size _).setCell hbZ.size _).setCell hbZ.size _))
          ((go_at_call 48;(with_reducible refine (hSnn.out _ (‹_/\_/\_/\Below wn.heap.size wn _›.2.2.2)).mono ?_);rintro e w3 ⟨rfl,hb⟩;have hbZ:=Qa (‹_/\_/\_/\Below wn.heap.size wn _›.2.2.2) hb;(try have Y:=Xf.newd hb);(try (obtain ⟨y0,y1,y2,f0,f1,f2⟩:=Y.facts))))
         all_goals
          go_wp2
          go_meet
          first
           | exact ⟨_,rfl,rfl,Xf.set17 Y _ _ _,((hbZ.setCell (Nat.le_refl _) _).setCell (Nat.le_refl _) _).setCell (Nat.le_refl _) _⟩
           | exact ⟨_,rfl,rfl,⟨_,heap_alloc_new w3 _⟩,Qa hbZ (Qc _ _)⟩
        case rest =>
         obtain ⟨pb,rfl,rfl,hBb,hw6⟩:=hcut
         obtain ⟨wo,rfl⟩:∃ wq:World,wq=wc:=⟨_,rfl⟩
         obtain ⟨u0,u1,u2,_⟩:=(hBaH.out.later hw6).facts
         obtain ⟨z0,z1,z2,_⟩:=hBb.facts
         have hE:=Lib.hid (Qa hw35.out hw6)
         clear hBb hw6 hSnn hSg hc0n hc1n hd5n
         go_wp2
         go_roundw
         case rel=>exact ⟨k+1,hkH.out,by go_num,hE.out⟩
         case measure=>have:=hkH.out;simp [intOf];omega
      ·have hkd:¬ ((k:Int)<((Qq sg.ks).length:Int)):=by omega
       have hE:=Lib.hid (Qa hw2 hw3)
       clear hw3 hK
       go_wp2
       go_roundw
       case rel=>exact ⟨g+1,hgH.out,by go_num,hE.out⟩
       case measure=>have:=hgH.out;simp [intOf];omega
    ·obtain rfl:g=c.reps.length:=by omega
     clear hg hM eM
     go_wp2
     go_ret
     exact ⟨rfl,hbw⟩
end Go.Proofs.YtcldpmkhpmlcbaaGreatDoor
