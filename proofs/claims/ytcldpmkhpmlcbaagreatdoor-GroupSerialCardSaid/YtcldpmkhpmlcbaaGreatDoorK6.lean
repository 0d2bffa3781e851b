/- part -/
import Derived.Test.YtcldpmkhpmlcbaaGreatDoorRefAp14
import Derived.Deep.AppendLies
set_option linter.unusedVariables false
set_option linter.unusedSimpArgs false
namespace Go.Proofs.YtcldpmkhpmlcbaaGreatDoor
open Go.RowKit Go.Maps Go.Shelf Go.Sort
structure ZP (w:World) (B q o:Nat) (R:Nat->Option Value) (v:Value) (O:Nat->Prop) (L:List It) (last low:Nat):Prop where
 blk:∃ cur t,w.heap[q]? = some (.cells cur t (0,0))/\cur[o]? = some v/\cur[o+1]? = some (.int .u64 (last:Int))/\cur[o+2]? = some (.int .u64 (low:Int))/\∀ j,(j<o \/ o+3<=j)->cur[j]? = R j
 row:w.ownsRow B 128 5 v L.length (Zy L)
 hq:O q
 mine:∀ g,v.ownBlock=some g->O g/\g ≠ q
 lt:∀ k,O k->B<=k/\k<w.heap.size
def X0 (w:World) (B q o:Nat) (R:Nat->Option Value) (O:Nat->Prop) (L:List It) (last low:Nat):Prop:=∃ v,ZP w B q o R v O L last low
section
variable {w w':World} {B q o:Nat} {R:Nat->Option Value} {v:Value} {O O':Nat->Prop} {L:List It} {last low:Nat}
theorem ZP.c0 (h:ZP w B q o R v O L last low):w.cell? ⟨q,o,none⟩=some v:=by
 obtain ⟨cur,t,hb,h0,h1,h2,_⟩:=h.blk
 rw [cell_of_row w q o _ _ _ hb,h0]
theorem ZP.c1 (h:ZP w B q o R v O L last low):w.cell? ⟨q,o+1,none⟩=some (.int .u64 (last:Int)):=by
 obtain ⟨cur,t,hb,h0,h1,h2,_⟩:=h.blk
 rw [cell_of_row w q (o+1) _ _ _ hb,h1]
theorem ZP.c2 (h:ZP w B q o R v O L last low):w.cell? ⟨q,o+2,none⟩=some (.int .u64 (low:Int)):=by
 obtain ⟨cur,t,hb,h0,h1,h2,_⟩:=h.blk
 rw [cell_of_row w q (o+2) _ _ _ hb,h2]
theorem ZP.fz (h:ZP w B q o R v O L last low) (j:Nat):w.frozen? ⟨q,j,none⟩=false:=by
 obtain ⟨cur,t,hb,_⟩:=h.blk
 exact frozen_of_row w q j _ _ hb
theorem ZP.out (h:ZP w B q o R v O L last low) (hw:Qg O' w w') (hd:∀ k,O k->¬ O' k):ZP w' B q o R v O L last low:=by
 obtain ⟨cur,t,hb,hr⟩:=h.blk
 exact ⟨⟨cur,t,hw.obj hb (hd _ h.hq),hr⟩,hw.row h.row (fun g hg=>hd g (h.mine g hg).1),h.hq,h.mine,fun k hk=>⟨(h.lt k hk).1,Nat.lt_of_lt_of_le (h.lt k hk).2 hw.size⟩⟩
theorem ZP.later (h:ZP w B q o R v O L last low) (hb:Below w.heap.size w w'):ZP w' B q o R v O L last low :=
 h.out (O':=fun _=>False) (Qg.of_below hb) (fun _ _ h=>h)
theorem ZP.mono (h:ZP w B q o R v O L last low) (hs:∀ k,O k->O' k) (hl:∀ k,O' k->B<=k/\k<w.heap.size):ZP w B q o R v O' L last low :=
 ⟨h.blk,h.row,hs _ h.hq,fun g hg=>⟨hs g (h.mine g hg).1,(h.mine g hg).2⟩,hl⟩
theorem X0.out (h:X0 w B q o R O L last low) (hw:Qg O' w w') (hd:∀ k,O k->¬ O' k):X0 w' B q o R O L last low:=by
 obtain ⟨v,h⟩:=h
 exact ⟨v,h.out hw hd⟩
theorem X0.later (h:X0 w B q o R O L last low) (hb:Below w.heap.size w w'):X0 w' B q o R O L last low :=
 h.out (O':=fun _=>False) (Qg.of_below hb) (fun _ _ h=>h)
theorem X0.stay (h:X0 w B q o R O L last low) (hb:Below w.heap.size w w') (hB:B<=w.heap.size):X0 w' B q o R (ext O w w') L last low:=by
 obtain ⟨v,h⟩:=h.later hb
 exact ⟨v,h.mono (fun k hk=>.inl hk) (fun k hk=>Or.elim hk (h.lt k) (fun e=>⟨by omega,e.2⟩))⟩
theorem QoP {a:Array Value} {i:Nat} {v:Value} (h:a[i]? = some v):i<a.size:=(Array.getElem?_eq_some_iff.1 h).1
theorem QdB {a:Array Value} {i:Nat} {v u:Value} (h:a[i]? = some v):(a.setIfInBounds i u)[i]? = some u:=by
 have:=QoP h
 simp [this]
theorem XR {a:Array Value} {i j:Nat} {u:Value} (h:i ≠ j):(a.setIfInBounds i u)[j]? = a[j]?:=by
 rw [Array.getElem?_setIfInBounds,if_neg h]
theorem ZP.setLast (h:ZP w B q o R v O L last low) (n:Nat):ZP (w.setCell ⟨q,o+1,none⟩ (.int .u64 (n:Int))) B q o R v O L n low:=by
 obtain ⟨cur,t,hb,h0,h1,h2,hr⟩:=h.blk
 have hs:=YZ (j:=o+1) (.int .u64 (n:Int)) hb
 have ho:=YA w q (o+1) (.int .u64 (n:Int))
 exact { blk:=⟨_,t,hs,by rw [XR (by omega),h0],QdB h1,by rw [XR (by omega),h2],fun j hj=>by rw [XR (by omega)];exact hr j hj⟩,row:=ho.row h.row (fun g hg e=>(h.mine g hg).2 e),hq:=h.hq,mine:=h.mine,lt:=fun k hk=>⟨(h.lt k hk).1,by have:=(h.lt k hk).2;have:=ho.size;omega⟩ }
theorem ZP.setLow (h:ZP w B q o R v O L last low) (n:Nat):ZP (w.setCell ⟨q,o+2,none⟩ (.int .u64 (n:Int))) B q o R v O L last n:=by
 obtain ⟨cur,t,hb,h0,h1,h2,hr⟩:=h.blk
 have hs:=YZ (j:=o+2) (.int .u64 (n:Int)) hb
 have ho:=YA w q (o+2) (.int .u64 (n:Int))
 exact { blk:=⟨_,t,hs,by rw [XR (by omega),h0],by rw [XR (by omega),h1],QdB h2,fun j hj=>by rw [XR (by omega)];exact hr j hj⟩,row:=ho.row h.row (fun g hg e=>(h.mine g hg).2 e),hq:=h.hq,mine:=h.mine,lt:=fun k hk=>⟨(h.lt k hk).1,by have:=(h.lt k hk).2;have:=ho.size;omega⟩ }
theorem ZP.setList {w1:World} {v':Value} {L':List It} (h:ZP w B q o R v O L last low) (hb:Below w.heap.size w w1) (hr:w1.ownsRow w.heap.size 128 5 v' L'.length (Zy L')) :
  ZP (w1.setCell ⟨q,o,none⟩ v') B q o R v' (ext O w (w1.setCell ⟨q,o,none⟩ v')) L' last low:=by
 have h1:=h.later hb
 obtain ⟨cur,t,hb1,h0,hc1,h2,hrr⟩:=h1.blk
 have hs:=YZ (j:=o) v' hb1
 have ho:=YA w1 q o v'
 have hqlt:=(h.lt q h.hq)
 have hsz:=hb.size
 have hne:∀ g,v'.ownBlock=some g->g ≠ q:=fun g hg e=>by have:=(hr.lt g hg).1;omega
 have hr2:=ho.row hr (fun g hg e=>hne g hg e)
 refine { blk:=⟨_,t,hs,QdB h0,by rw [XR (by omega),hc1],by rw [XR (by omega),h2],fun j hj=>by rw [XR (by omega)];exact hrr j hj⟩,row:=⟨hr2.1,?_⟩,hq:=.inl h.hq,mine:=fun g hg=>⟨.inr ⟨(hr2.lt g hg).1,(hr2.lt g hg).2⟩,hne g hg⟩,lt:=fun k hk=>Or.elim hk (fun hk=>⟨(h.lt k hk).1,by have:=(h.lt k hk).2;have:=ho.size;omega⟩) (fun e=>⟨by omega,e.2⟩) }
 rcases hr2.2 with e | ⟨g,cap,cur,e,hg,r⟩
 ·exact .inl e
 ·exact .inr ⟨g,cap,cur,e,by omega,r⟩
end
set_option maxRecDepth 100000 in
set_option maxHeartbeats 2000000 in
theorem Qcm {w:World} {B q o:Nat} {R:Nat->Option Value} {O:Nat->Prop} {L:List It} {last low:Nat} (h:X0 w B q o R O L last low) (k:ByteArray) (n:Nat) (hn:L.length<=900000) :
  Calls Tryz.prog 48 #[.pointer (some ⟨q,o,none⟩),.string k,.int .u64 (n:Int)] w (KY w (KB L k n)):=by
 obtain ⟨W,eW,HB,hsz,hrow⟩:=Qjp w (.int .i64 0) (.int .u64 0) (.string { data:=#[] }) 66
 obtain ⟨v,h⟩:=h
 have hqlt:=(h.lt q h.hq).2
 have hbl:∀ g,v.ownBlock=some g->g<w.heap.size:=fun g hg=>(h.lt g (h.mine g hg).1).2
 replace h:=h.later HB
 have c0:=h.c0
 obtain ⟨A,cap,hv,hcap,hA⟩:=QaQ h.row
 rw [hv] at c0 hbl
 have HBL:=Lib.hid hbl
 clear hbl
 have HR:=Lib.hid hrow
 have HZ:=Lib.hid hsz
 clear h hv hcap hrow hsz
 go_enter Tryz.func48,Tryz.ntmps48
 go_wp2
 go_loopw [8] (fun i wr=>∃ j:Nat,j<=L.length/\i = .int .i64 j/\Hid ((L.take j).all (fun x=>!(decide (x.key=k) && decide (x.num<=n)))=true)/\Below W.heap.size W wr) (fun i _=>L.length-(intOf i).toNat)
 case atStart=>exact ⟨0,Nat.zero_le _,rfl,rfl,Below.refl _ _⟩
 case round =>
  obtain ⟨j,hj,rfl,HA,hw⟩:=hrel
  have hrow:=YB HR.out hw
  obtain ⟨y0,y1,y2,f0,f1,f2⟩:=K9 hrow
  replace c0:=keep hw c0
  clear hrow eW
  have hglt:w.heap.size<wr.heap.size:=by have:=hw.size;have:=HZ.out;omega
  by_cases hlt:j<L.length
  ·obtain ⟨b,off,x,z,bt,t,m,rfl,d0,d1,d2,d3,d4,HX⟩:=(hA.later hw).at' hlt
   have hki:(j:Int)<(L.length:Int):=by omega
   by_cases hx:x=k
   ·have q1:(x.toList == k.toList)=true:=by rw [QdS,decide_eq_true hx]
    by_cases hle:m<=n
    ·have HS:Hid (KB L k n=⟨m,⟨z,bt,t⟩⟩):=Qjq hlt HA.out HX.out hx hle
     have hle':((m:Int)<=(n:Int)):=by omega
     have hblt:=HBL.out b rfl
     have n1:¬ (q=w.heap.size):=by omega
     have n2:¬ (w.heap.size=q):=by omega
     have n3:¬ (b=w.heap.size):=by omega
     have n4:¬ (w.heap.size=b):=by omega
     clear hx
     go_wp2
     go_region_held3 (fun w'=>w'.cell? ⟨q,o,none⟩=some (.slice (some ⟨b,off,none⟩) L.length cap)/\w'.cell? ⟨b,off+j * 5+1,none⟩=some (.int .i64 z)/\w'.cell? ⟨b,off+j * 5+1+1,none⟩=some (.int .u64 (bt:Int))/\w'.cell? ⟨b,off+j * 5+1+2,none⟩=some (.string t)/\w'.cell? ⟨b,off+j * 5+4,none⟩=some (.int .u64 (m:Int))) (go_keep) (fail)
     all_goals
      go_wp2
      obtain ⟨z0,z1,z2,_⟩:=K9 (Va (YB HR.out hw) (.int .i64 z) (.int .u64 (bt:Int)) (.string t))
      refine bodyPost_ret (v:=.tuple #[.agg #[.int .i64 z,.int .u64 (bt:Int),.string t],.int .u64 (m:Int)]) (by simp [results,Tryz.results48,go_sem,z0,z1,z2]) rfl ⟨by rw [HS.out],Qb ((((Qa HB hw).setCell (Nat.le_refl _) _).setCell (Nat.le_refl _) _).setCell (Nat.le_refl _) _)⟩
    ·have HR2:Hid ((L.take (j+1)).all (fun x=>!(decide (x.key=k) && decide (x.num<=n)))=true):=JS hlt HX.out (by simp;omega) HA.out
     have hle':¬ ((m:Int)<=(n:Int)):=by omega
     clear hx
     go_wp2
     go_roundw
     case rel=>exact ⟨j+1,by omega,by go_num,HR2,hw⟩
     case measure=>simp [intOf];omega
   ·have q1:(x.toList == k.toList)=false:=by rw [QdS,decide_eq_false hx]
    have HR2:Hid ((L.take (j+1)).all (fun x=>!(decide (x.key=k) && decide (x.num<=n)))=true):=JS hlt HX.out (by simp [hx]) HA.out
    clear hx
    go_wp2
    go_roundw
    case rel=>exact ⟨j+1,by omega,by go_num,HR2,hw⟩
    case measure=>simp [intOf];omega
  ·have HS:Hid (KB L k n=Yg):=by
    show _=_
    have e:L.take j=L:=List.take_of_length_le (by omega)
    have:=HA.out
    rw [e] at this
    exact Qjr this
   go_wp2
   obtain ⟨z0,z1,z2,_⟩:=K9 (Va (YB HR.out hw) (.int .i64 0) (.int .u64 0) (.string { data:=#[] }))
   refine bodyPost_ret (v:=.tuple #[.agg #[.int .i64 0,.int .u64 0,.string { data:=#[] }],.int .u64 0]) (by simp [results,Tryz.results48,go_sem,z0,z1,z2]) rfl ⟨by rw [HS.out];rfl,(((Qa HB hw).setCell (Nat.le_refl _) _).setCell (Nat.le_refl _) _).setCell (Nat.le_refl _) _⟩
def Qiz (w:World) (B q o:Nat) (R:Nat->Option Value) (O:Nat->Prop) (L:List It) (last low n:Nat) (l:List Wr) (e:Ending) (w':World):Prop :=
 e = .returned (.int .i64 (VB last n l))/\X0 w' B q o R (ext O w w') (JA L last n l) (Un last n l) low/\Qg O w w'
set_option maxRecDepth 100000 in
set_option maxHeartbeats 8000000 in
theorem Qgu {w:World} {B q o:Nat} {R:Nat->Option Value} {O:Nat->Prop} {L:List It} {last low:Nat} (h:X0 w B q o R O L last low) (hB:B<=w.heap.size) (n:Nat) (l:List Wr) (A:Option Addr) (ca:Nat) (hA:Yf w A l) (hAO:∀ a,A=some a->0<l.length->¬ O a.block) (hok:Qad l)
  (hI:L.length+l.length<=800000) :
  Calls Tryz.prog 49 #[.pointer (some ⟨q,o,none⟩),.int .u64 (n:Int),.slice A l.length ca] w (Qiz w B q o R O L last low n l):=by
 obtain ⟨i0,hi,hz0,hz1,hz2⟩:=info_parts QiI
 have HS:=Lib.hid h
 obtain ⟨v,h⟩:=h
 have c1:=h.c1
 clear h
 by_cases hn:n<=last
 ·have hl:((n:Int)<=(last:Int)):=by omega
  have HE:Hid (VB last n l=1/\JA L last n l=L/\Un last n l=last):=by show _/\_/\_;simp [VB,JA,Un,hn]
  clear hn
  go_enter Tryz.func49,Tryz.ntmps49
  go_wp2
  go_ret
  refine ⟨Jd HE.out.1,?_,Qg.refl _ _⟩
  rw [HE.out.2.1,HE.out.2.2]
  exact HS.out.stay (Below.refl _ _) hB
 ·have hl:¬ ((n:Int)<=(last:Int)):=by omega
  have HNN:=Lib.hid hn
  clear hn
  cases hw:Yv l
  ·have HW:=Lib.hid hw
   have HE:Hid (VB last n l=2/\JA L last n l=L/\Un last n l=last):=by show _/\_/\_;simp [VB,JA,Un,HNN.out,hw]
   clear hw
   go_enter Tryz.func49,Tryz.ntmps49
   go_wp2_with (go_at_call 102;refine (ZB HW.out (Qag l A ca _ hA hok (by omega))).mono ?_;rintro e w1 ⟨rfl,hb⟩)
   go_ret
   refine ⟨Jd HE.out.1,?_,Qg.of_below hb⟩
   rw [HE.out.2.1,HE.out.2.2]
   exact HS.out.stay hb hB
  ·have HW:=Lib.hid hw
   have HE:Hid (VB last n l=0/\JA L last n l=XZ n L l/\Un last n l=n):=by show _/\_/\_;simp [VB,JA,Un,HNN.out,hw]
   clear hw
   go_enter Tryz.func49,Tryz.ntmps49
   go_wp2_with (go_at_call 102;refine (ZB HW.out (Qag l A ca _ hA hok (by omega))).mono ?_;rintro e w1 ⟨rfl,hb⟩)
   go_loopw [7] (fun i wr=>∃ j:Nat,j<=l.length/\i = .int .i64 j/\Hid (X0 wr B q o R (ext O w wr) (XZ n L (l.take j)) last low)/\Qg O w wr) (fun i _=>l.length-(intOf i).toNat)
   case atStart=>exact ⟨0,Nat.zero_le _,rfl,HS.out.stay hb hB,Qg.of_below hb⟩
   case round =>
    obtain ⟨j,hj,rfl,HI,hout⟩:=hrel
    obtain ⟨wc,rfl⟩:∃ wc:World,wc=wr:=⟨_,rfl⟩
    obtain ⟨v2,h2⟩:=HI.out
    obtain ⟨L2,hL2⟩:∃ L2,Hid (XZ n L (l.take j)=L2):=⟨_,rfl⟩
    rw [hL2.out] at h2
    have hL2n:L2.length<=800000:=by rw [<- hL2.out,QbT,List.length_take];omega
    have c0:=h2.c0
    have c1:=h2.c1
    have f0:=h2.fz o
    have f1:=h2.fz (o+1)
    by_cases hlt:j<l.length
    ·obtain ⟨b,off,x,z,m,tx,rfl,d0,d1,d2,d3,HX⟩:=(hA.out hout hAO).at' hlt
     have hki:(j:Int)<(l.length:Int):=by omega
     obtain ⟨K,cap,hv,hcap,hK⟩:=QaQ h2.row
     have hKK:K=none \/ ∃ g,K=some ⟨g,0,none⟩:=by
      rcases h2.row.2 with ⟨e,_⟩ | ⟨g,_,_,e,_⟩
      ·rw [hv] at e;injection e with e;exact .inl e
      ·rw [hv] at e;injection e with e;exact .inr ⟨_,e⟩
     replace hKK:=Lib.hid hKK
     have HV:=Lib.hid hv
     rw [hv] at c0
     clear hv
     go_wp2
     go_loopw [8,9] (fun u i wr=>∃ k:Nat,k<=L2.length/\i = .int .i64 k/\Hid ((L2.take k).all (fun y=>Qy y.key x)=true)/\Hid (wr.ownsRow wc.heap.size 128 5 u k (Zy (L2.take k)))/\Below wc.heap.size wc wr) (fun _ i _=>L2.length-(intOf i).toNat)
     case atStart=>exact ⟨0,Nat.zero_le _,rfl,rfl,Q7 _ _ _ _,Below.refl _ _⟩
     case round =>
      obtain ⟨k,hk,rfl,HA,HO,hw⟩:=hrel
      obtain ⟨wi,rfl⟩:∃ wi:World,wi=wr:=⟨_,rfl⟩
      have c0k:=c0
      replace c0:=keep hw c0
      replace c1:=keep hw c1
      have d0k:=d0
      have d1k:=d1
      have d2k:=d2
      have d3k:=d3
      replace d0:=keep hw d0
      replace d1:=keep hw d1
      replace d2:=keep hw d2
      replace d3:=keep hw d3
      have HD:Hid (∀ w',Below wc.heap.size wc w'->w'.cell? ⟨b,off+j * 4,none⟩=some (.string x)/\w'.cell? ⟨b,off+j * 4+1,none⟩=some (.int .i64 z)/\w'.cell? ⟨b,off+j * 4+1+1,none⟩=some (.int .u64 (m:Int))/\w'.cell? ⟨b,off+j * 4+1+2,none⟩=some (.string tx)) :=
       fun w' hb=>⟨keep hb d0k,keep hb d1k,keep hb d2k,keep hb d3k⟩
      have HC:Hid (∀ w',Below wc.heap.size wc w'->w'.cell? ⟨q,o,none⟩=some (.slice K L2.length cap)/\w'.frozen? ⟨q,o,none⟩=false) :=
       fun w' hb=>⟨keep hb c0k,by rw [hb.frozen (p:=⟨q,o,none⟩) (Yc c0k)];exact f0⟩
      clear d0k d1k d2k d3k c0k
      by_cases hkl:k<L2.length
      ·obtain ⟨b',off',y,yz,ym,yt,yn,rfl,e0,e1,e2,e3,e4,HY⟩:=(hK.later hw).at' hkl
       have hki2:(k:Int)<(L2.length:Int):=by omega
       cases hl:Qy y x
       ·have hl':Op.bytesLess y.toList x.toList=false:=hl
        have HE2:Hid (∀ y',L2[k]? = some y'->Qy y'.key x=false):=fun y' hy=>by
         have:L2.getD k JT=y':=by rw [List.getD_eq_getElem?_getD,hy];rfl
         rw [HY.out] at this;rw [<- this];exact hl
        clear hl
        have hck:¬ (cap=k):=by omega
        have hbd1:(0:Int)<=(k:Int):=by omega
        have hbd2:(k:Int)<=(L2.length:Int):=by omega
        go_wp2
        go_quiet (fail)
        go_wp2
        generalize hwj:wi.drewN _=wj
        have hw2:Below wc.heap.size wc wj:=hwj ▸ Qj hw _
        have HO2:Hid (wj.ownsRow wc.heap.size 128 5 u8 k (Zy (L2.take k))):=by rw [<- hwj];exact HO
        clear hwj
        go_region_held3 (fun w'=>w'.cell? ⟨b,off+j * 4,none⟩=some (.string x)/\w'.cell? ⟨b,off+j * 4+1,none⟩=some (.int .i64 z)/\w'.cell? ⟨b,off+j * 4+1+1,none⟩=some (.int .u64 (m:Int))/\w'.cell? ⟨b,off+j * 4+1+2,none⟩=some (.string tx))
         (first | exact HD.out _ (Qa hw2 (Qb (Below.refl _ _))) | exact HD.out _ (Qa hw2 (Qb (Qc _ _))) | exact HD.out _ hbw3)
         ((refine step_append_lies _ (by rfl) _ _ 119 (by rfl) wc.heap.size 128 i0 _ 5 56 Tryz.underlying119 hi hz0 hz1 hz2 rfl (by decide) u8 k (Zy (L2.take k)) (by rfl) (Qi HO2.out (Qb (Qc _ _))) ⟨wj.heap.size,0,none⟩ 1 1 (V0 ⟨x,⟨z,m,tx⟩,n⟩) (by rfl) rfl (World.news_of_block (heap_alloc_new wj _)) (QaP _) (by decide) (QA (by omega)) (by omega) (Nat.le_trans hw2.size (Qb (Qc _ _)).size) _ rfl ?_;intro g3 cap3 w3 hown3 hgr3 hat3 hlt3;have hbw3:Below wc.heap.size wc w3:=QX (Qa hw2 (Qb (Qc wj _))) (Nat.le_refl _) (Qi HO2.out (Qb (Qc wj _))) hgr3))
        all_goals
         have c0':=(HC.out _ hbw3).1
         replace hown3:=Lib.hid hown3
         clear hgr3 hat3 hlt3
         go_wp2_with (at_builtin;refine Zi rfl _ _ 119 rfl wc.heap.size 128 i0 _ 5 56 Tryz.underlying119 hi hz0 hz1 hz2 rfl (by decide) (.slice (some ⟨g3,0,none⟩) (k+1) cap3) (k+1) (Zy (L2.take k) ++ V0 ⟨x,⟨z,m,tx⟩,n⟩) rfl hown3.out (some ⟨b',off'+k * 5,none⟩) (L2.length-k) (cap-k) (Zy (L2.drop k)) rfl (by rw [Qdh,List.length_drop]) (fun e=>by cases e) (QmE (hK.later hbw3) k) (QmC _) (QA (by omega)) (by omega) hbw3.size ?_;intro v4 w4 hown4 hgr4 _;have hbw4:Below wc.heap.size wc w4:=QX hbw3 (Nat.le_refl _) hown3.out hgr4;obtain ⟨g4,cap4,e4,_⟩:=World.ownsRow.form hown4 (by omega);subst e4;replace hown4:=Lib.hid hown4;obtain ⟨c0w,f0w⟩:=(HC.out _ hbw4);clear hgr4)
         go_roundw
         case rel =>
          have hT4:JW n L2 ⟨x,⟨z,m,tx⟩⟩=L2.take k ++ ⟨x,⟨z,m,tx⟩,n⟩ :: L2.drop k:=Qk1 HA.out HE2.out rfl
          have hT5:XZ n L (l.take (j+1))=JW n L2 ⟨x,⟨z,m,tx⟩⟩:=by
           have e:l.getD j Zf=l[j]:=by rw [List.getD_eq_getElem?_getD,List.getElem?_eq_getElem hlt];rfl
           rw [List.take_succ_eq_append_getElem hlt,QdV,hL2.out, <- e,HX.out]
          have hl4:(JW n L2 ⟨x,⟨z,m,tx⟩⟩).length=k+1+(L2.length-k):=by rw [JW,Qdi];omega
          have hr4:=hown4.out
          rw [<- hl4] at hr4
          have hc4:Zy (JW n L2 ⟨x,⟨z,m,tx⟩⟩)=Zy (L2.take k) ++ V0 ⟨x,⟨z,m,tx⟩,n⟩ ++ Zy (L2.drop k):=by rw [hT4];simp [Zy]
          rw [<- hc4] at hr4
          have hset:=ZP.setList h2 hbw4 hr4
          rw [hl4] at hset
          have hsz4:=hbw4.size
          refine ⟨j+1,by omega,by go_num,?_,hout.trans (((Qg.of_below hbw4).trans' ((YA w4 q o _).mono fun k e=>by rw [e];exact h2.hq)))⟩
          rw [QdN hout.size (Nat.le_trans hbw4.size (YA w4 q o _).size)] at hset
          rw [hT5]
          exact ⟨_,hset⟩
         case measure=>simp [intOf];omega
       ·have hl':Op.bytesLess y.toList x.toList=true:=hl
        have HR:Hid ((L2.take (k+1)).all (fun y=>Qy y.key x)=true):=JS hkl HY.out hl HA.out
        have HT2:Hid (L2.take (k+1)=L2.take k ++ [⟨y,⟨yz,ym,yt⟩,yn⟩]):=by
         show _=_
         have e:L2.getD k JT=L2[k]:=by rw [List.getD_eq_getElem?_getD,List.getElem?_eq_getElem hkl];rfl
         rw [List.take_succ_eq_append_getElem hkl, <- e,HY.out]
        clear hl
        go_wp2
        go_quiet (fail)
        go_wp2_with (at_builtin;refine wpList_append_own_at _ rfl _ _ 119 rfl wc.heap.size 128 i0 _ 5 56 Tryz.underlying119 hi hz0 hz1 hz2 rfl (by decide) _ _ _ rfl (Qi HO.out (Qj (Qc _ _) _)) ⟨wi.heap.size,0,none⟩ 1 1 (V0 ⟨y,⟨yz,ym,yt⟩,yn⟩) rfl rfl (World.news_of_block (heap_alloc_new wi _)) (QaP _) (QA (by omega)) (by omega) (Nat.le_trans hw.size (Qj (Qc _ _) _).size) ?_;intro v3 w3 HO3 hg3 _ _)
        have hb3:=QX (Qa hw (Qj (Qc wi _) _)) (Nat.le_refl _) (Qi HO.out (Qj (Qc wi _) _)) hg3
        go_roundw
        case rel =>
         refine ⟨k+1,by omega,by go_num,HR,?_,hb3⟩
         show World.ownsRow _ _ _ _ _ _ _
         rw [HT2.out,QcP]
         exact HO3
        case measure=>simp [intOf];omega
      ·obtain rfl:k=L2.length:=by omega
       have hfull:=HA.out
       rw [List.take_length] at hfull
       replace hfull:=Lib.hid hfull
       rw [List.take_length] at HO
       clear HA
       have hbd1:(0:Int)<=(L2.length:Int):=by omega
       rcases hKK.out with rfl | ⟨g',rfl⟩ <;> by_cases hck:cap=L2.length
       all_goals
        go_wp2
        go_quiet (fail)
        go_wp2
        generalize hwj:wi.drewN _=wj
        have hw2:Below wc.heap.size wc wj:=hwj ▸ Qj hw _
        have HO2:Hid (wj.ownsRow wc.heap.size 128 5 u8 L2.length (Zy L2)):=by rw [<- hwj];exact HO
        clear hwj
        go_region_held3 (fun w'=>w'.cell? ⟨b,off+j * 4,none⟩=some (.string x)/\w'.cell? ⟨b,off+j * 4+1,none⟩=some (.int .i64 z)/\w'.cell? ⟨b,off+j * 4+1+1,none⟩=some (.int .u64 (m:Int))/\w'.cell? ⟨b,off+j * 4+1+2,none⟩=some (.string tx))
         (first | exact HD.out _ (Qa hw2 (Qb (Below.refl _ _))) | exact HD.out _ (Qa hw2 (Qb (Qc _ _))) | exact HD.out _ hbw3)
         ((refine step_append_lies _ (by rfl) _ _ 119 (by rfl) wc.heap.size 128 i0 _ 5 56 Tryz.underlying119 hi hz0 hz1 hz2 rfl (by decide) u8 L2.length (Zy L2) (by rfl) (Qi HO2.out (Qb (Qc _ _))) ⟨wj.heap.size,0,none⟩ 1 1 (V0 ⟨x,⟨z,m,tx⟩,n⟩) (by rfl) rfl (World.news_of_block (heap_alloc_new wj _)) (QaP _) (by decide) (QA (by omega)) (by omega) (Nat.le_trans hw2.size (Qb (Qc _ _)).size) _ rfl ?_;intro g3 cap3 w3 hown3 hgr3 hat3 hlt3;have hbw3:Below wc.heap.size wc w3:=QX (Qa hw2 (Qb (Qc wj _))) (Nat.le_refl _) (Qi HO2.out (Qb (Qc wj _))) hgr3))
        all_goals
         have c0':=(HC.out _ hbw3).1
         replace hown3:=Lib.hid hown3
         clear hgr3 hat3 hlt3
         go_wp2_with (at_builtin;refine Zi rfl _ _ 119 rfl wc.heap.size 128 i0 _ 5 56 Tryz.underlying119 hi hz0 hz1 hz2 rfl (by decide) (.slice (some ⟨g3,0,none⟩) (L2.length+1) cap3) (L2.length+1) (Zy L2 ++ V0 ⟨x,⟨z,m,tx⟩,n⟩) rfl hown3.out _ 0 _ [] rfl rfl (fun _=>rfl) (fun _ _ j u hu=>by simp at hu) (fun u hu=>by simp at hu) (QA (by omega)) (by omega) hbw3.size ?_;intro v4 w4 hown4 hgr4 _;have hbw4:Below wc.heap.size wc w4:=QX hbw3 (Nat.le_refl _) hown3.out hgr4;obtain ⟨g4,cap4,e4,_⟩:=World.ownsRow.form hown4 (by omega);subst e4;replace hown4:=Lib.hid hown4;obtain ⟨c0w,f0w⟩:=(HC.out _ hbw4);clear hgr4)
         go_roundw
         case rel =>
          have hT4:JW n L2 ⟨x,⟨z,m,tx⟩⟩=L2 ++ [⟨x,⟨z,m,tx⟩,n⟩]:=by
           have:=Qk1 (L:=L2) (k:=x) (j:=L2.length) (x:=⟨x,⟨z,m,tx⟩,n⟩) (by rw [List.take_length];exact hfull.out) (fun y hy=>by simp at hy) rfl
           rw [List.take_length,List.drop_length] at this
           exact this
          have hT5:XZ n L (l.take (j+1))=JW n L2 ⟨x,⟨z,m,tx⟩⟩:=by
           have e:l.getD j Zf=l[j]:=by rw [List.getD_eq_getElem?_getD,List.getElem?_eq_getElem hlt];rfl
           rw [List.take_succ_eq_append_getElem hlt,QdV,hL2.out, <- e,HX.out]
          have hl4:(JW n L2 ⟨x,⟨z,m,tx⟩⟩).length=L2.length+1+0:=by rw [JW,Qdi]
          have hr4:=hown4.out
          rw [<- hl4] at hr4
          have hc4:Zy (JW n L2 ⟨x,⟨z,m,tx⟩⟩)=Zy L2 ++ V0 ⟨x,⟨z,m,tx⟩,n⟩ ++ []:=by rw [hT4];simp [Zy]
          rw [<- hc4] at hr4
          have hset:=ZP.setList h2 hbw4 hr4
          rw [hl4] at hset
          have hsz4:=hbw4.size
          refine ⟨j+1,by omega,by go_num,?_,hout.trans (((Qg.of_below hbw4).trans' ((YA w4 q o _).mono fun k e=>by rw [e];exact h2.hq)))⟩
          rw [QdN hout.size (Nat.le_trans hbw4.size (YA w4 q o _).size)] at hset
          rw [hT5]
          exact ⟨_,hset⟩
         case measure=>simp [intOf];omega
    ·have ej:j=l.length:=by omega
     have HL:=Lib.hid (h2.setLast n)
     have HE2:Hid (XZ n L l=L2):=by show _=_;rw [<- hL2.out,ej,List.take_length]
     clear hlt
     go_wp2
     go_ret
     refine ⟨Jd HE.out.1,?_,hout.trans ((YA wc q (o+1) _).mono fun k e=>by rw [e];exact h2.hq)⟩
     ·rw [HE.out.2.1,HE.out.2.2,HE2.out]
      have e1:ext O w (wc.setCell ⟨q,o+1,none⟩ (.int .u64 (n:Int)))=ext O w wc:=funext fun k=>by simp [ext]
      rw [e1]
      exact ⟨v2,HL.out⟩
end Go.Proofs.YtcldpmkhpmlcbaaGreatDoor
