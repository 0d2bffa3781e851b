/- part -/
import Derived.Test.YtcldpmkhpmlcbaaGreatDoorJ6
import Derived.Lib.QuietBelow
set_option linter.unusedVariables false
set_option linter.unusedSimpArgs false
namespace Go.Proofs.YtcldpmkhpmlcbaaGreatDoor
open Go.RowKit Go.Shelf Go.Sort
theorem Qg5 {t:Tx} {k:Nat} {s:ByteArray} {n:Nat} (hk:k<t.rds.length) (h:t.rds.getD k XB=⟨s,n⟩):(QJ t).getD k Qt=s:=by
 rw [List.getD_eq_getElem?_getD,List.getElem?_eq_getElem hk] at h
 simp only [Option.getD_some] at h
 simp [QJ,List.getD_eq_getElem?_getD,hk,h]
theorem Qg6 {t:Tx} {k:Nat} {s:ByteArray} {v:JQ} (hk:k<t.wrs.length) (h:t.wrs.getD k Zf=⟨s,v⟩):(QT t).getD k Qt=s:=by
 rw [List.getD_eq_getElem?_getD,List.getElem?_eq_getElem hk] at h
 simp only [Option.getD_some] at h
 simp [QT,List.getD_eq_getElem?_getD,hk,h]
theorem Qfz {t:Tx} {k:Nat} (hk:k<t.rds.length) (h:Yx (QJ t) k=false):Qh t=false:=by
 rw [Qh,Jq hk h];simp
theorem QfA {t:Tx} {k:Nat} (hk:k<t.wrs.length) (h:Yx (QT t) k=false):Qh t=false:=by
 rw [Qh,Jq hk h];simp
theorem Qk5 {t:Tx} {k:Nat} {s:ByteArray} {v:JQ} (hk:k<t.wrs.length) (h:t.wrs.getD k Zf=⟨s,v⟩) (hv:Ze v=false):Qh t=false:=by
 rw [Qh,Qfw hk h hv];simp
theorem Vc (s:ByteArray) (w:World) (hs:s.size<=maxLen) :
  Calls Tryz.prog 56 #[.string s] w fun e w'=>e = .returned (.bool (Yb s))/\Below w.heap.size w w' :=
 (YK s w hs).mono fun _ _ ⟨he,hw⟩=>⟨he,hw ▸ Below.refl _ _⟩
set_option maxRecDepth 100000 in
set_option maxHeartbeats 8000000 in
theorem YO (t:Tx) (A B:Option Addr) (ca cb:Nat) (w:World) (h:QY w t A B) :
  Calls Tryz.prog 22 #[XA t A B ca cb] w fun e w'=>e = .returned (.bool (Qh t))/\Below w.heap.size w w':=by
 unfold XA
 obtain ⟨W,eW,HB,c0,c1,c2,c3⟩:=QeS w (.int .i64 t.ses) (.int .i64 t.seq) (.slice A t.rds.length ca) (.slice B t.wrs.length cb) 38
 have h:=h.later HB
 have hrn:=h.rn
 have hwn:=h.wn
 cases hid:idB t.ses t.seq
 ·have HF:Hid (Qh t=false):=by show _=_;rw [Qh,hid];simp
  go_enter Tryz.func22,Tryz.ntmps22
  go_wp2_with (go_at_call 55;refine (V1 _ _ _).mono ?_;rintro e w1 ⟨rfl,hb⟩;replace HB:=Qa HB hb)
  go_ret
  exact ⟨Qm HF.out,HB⟩
 ·by_cases hn:t.rds.length<=6
  ·by_cases hm:t.wrs.length<=6
   ·by_cases h0:t.rds.length+t.wrs.length=0
    ·have HF:Hid (Qh t=false):=by show _=_;rw [Qh];simp [h0]
     have h0':t.rds.length=0:=by omega
     have h0'':t.wrs.length=0:=by omega
     have q0:((t.rds.length:Int) == 0)=true:=by rw [beq_iff_eq];omega
     have q1:((t.wrs.length:Int) == 0)=true:=by rw [beq_iff_eq];omega
     clear h0 h0' h0''
     go_enter Tryz.func22,Tryz.ntmps22
     go_wp2_with (go_at_call 55;refine (V1 _ _ _).mono ?_;rintro e w1 ⟨rfl,hb⟩;replace c2:=keep hb c2;replace c3:=keep hb c3;replace HB:=Qa HB hb)
     go_ret
     exact ⟨Qm HF.out,HB⟩
    ·have HF:Hid (Qh t=(QB (QJ t) t.rds.length && QB (QT t) t.wrs.length && Xb t.wrs)):=by
      show _=_
      rw [Qh,hid,decide_eq_true hn,decide_eq_true hm,decide_eq_false h0]
      simp
     have hq:((t.rds.length:Int) == 0)=false \/ (((t.rds.length:Int) == 0)=true/\((t.wrs.length:Int) == 0)=false):=by
      by_cases z:t.rds.length=0
      ·exact .inr ⟨by rw [beq_iff_eq];omega,by rw [beq_eq_false_iff_ne];omega⟩
      ·exact .inl (by rw [beq_eq_false_iff_ne];omega)
     have HN:=Lib.hid h0
     clear h0
     rcases hq with q0 | ⟨q0,q1⟩
     all_goals
      go_enter Tryz.func22,Tryz.ntmps22
      go_wp2_with (go_at_call 55;refine (V1 _ _ _).mono ?_;rintro e w1 ⟨rfl,hb⟩;replace c0:=keep hb c0;replace c1:=keep hb c1;replace c2:=keep hb c2;replace c3:=keep hb c3;replace h:=h.later hb;replace HB:=Qa HB hb;clear hb)
      clear eW q0
      go_loopw [3] (fun i wr=>∃ k:Nat,k<=t.rds.length/\i = .int .i64 k/\Hid (QB (QJ t) k=true)/\Below w1.heap.size w1 wr) (fun i _=>t.rds.length-(intOf i).toNat)
      case atStart=>exact ⟨0,Nat.zero_le _,rfl,rfl,Below.refl _ _⟩
      case round =>
       obtain ⟨k,hk,rfl,HA,hw⟩:=hrel
       have hr:=h.later hw
       have hB:=Qa HB hw
       replace c0:=keep hw c0
       replace c1:=keep hw c1
       replace c2:=keep hw c2
       replace c3:=keep hw c3
       by_cases hlt:k<t.rds.length
       ·obtain ⟨b,off,x,n,rfl,d0,d1,HX⟩:=hr.rds.at' hlt
        have HY:=Lib.hid (Qg5 hlt HX.out)
        have hsx:x.size<=maxLen:=by have:=hr.rk k hlt;rw [HX.out] at this;exact this
        cases hkey:Yb x
        ·have HF:Hid (Qh t=false):=Qfz hlt (by simp only [Yx,HY.out,hkey,Bool.false_and])
         go_wp2
         go_quiet ((go_at_call 56;exact YJ (YK _ _ hsx)))
         go_wp2
         go_ret
         exact ⟨Qm HF.out,Qj hB _⟩
        ·by_cases hk0:k=0
         ·have HR:Hid (QB (QJ t) (k+1)=true):=Jr HA.out HY.out hkey hk0
          have hg:decide (0<k)=false:=by rw [decide_eq_false_iff_not];omega
          clear hk0
          go_wp2
          go_quiet ((go_at_call 56;exact YJ (YK _ _ hsx)))
          go_wp2
          go_roundw
          case rel=>exact ⟨k+1,by omega,by go_num,HR,Qj hw _⟩
          case measure=>simp [intOf];omega
         ·obtain ⟨b',off',y,m,e,e0,e1,HZ⟩:=hr.rds.at' (k:=k-1) (by omega)
          injection e with e
          injection e with f1 f2
          subst f1 f2
          have HW:=Lib.hid (Qg5 (by omega) HZ.out)
          have hg:decide (0<k)=true:=by rw [decide_eq_true_iff];omega
          have hi:((k:Int)-1).toNat=k-1:=by omega
          have hk1:1<=k:=by omega
          have hk1i:(1:Int)<=(k:Int):=by omega
          have hk2i:(k:Int)-1<(t.rds.length:Int):=by omega
          cases hl:Qy y x
          ·have HF:Hid (Qh t=false):=Qfz hlt (by simp only [Yx,HY.out,HW.out,hkey,hl,beq_eq_false_iff_ne.2 hk0,Bool.false_or,Bool.and_false])
           have hl':(Op.bytesLess x.toList y.toList || x.toList == y.toList)=true:=UE hl
           clear hl hk0
           go_wp2
           go_quiet ((go_at_call 56;exact YJ (YK _ _ hsx)))
           go_wp2
           go_ret
           exact ⟨Qm HF.out,Qj hB _⟩
          ·have HR:Hid (QB (QJ t) (k+1)=true):=JP HA.out HY.out HW.out hkey hl
           have hl':(Op.bytesLess x.toList y.toList || x.toList == y.toList)=false:=VW hl
           clear hl hk0
           go_wp2
           go_quiet ((go_at_call 56;exact YJ (YK _ _ hsx)))
           go_wp2
           go_roundw
           case rel=>exact ⟨k+1,by omega,by go_num,HR,Qj hw _⟩
           case measure=>simp [intOf];omega
       ·have ek:k=t.rds.length:=by omega
        have HR:Hid (QB (QJ t) t.rds.length=true):=by show _=_;rw [<- ek];exact HA.out
        go_wp2_with fail
        clear ek hlt hk HA
        obtain ⟨wa,rfl⟩:∃ wa:World,wa=wr:=⟨_,rfl⟩
        clear hr
        replace h:=h.later hw
        replace HB:=Qa HB hw
        clear hw hB
        go_loopw [4] (fun i wr=>∃ k:Nat,k<=t.wrs.length/\i = .int .i64 k/\Hid (QB (QT t) k=true)/\Hid (Xb (t.wrs.take k)=true)/\Below wa.heap.size wa wr) (fun i _=>t.wrs.length-(intOf i).toNat)
        case atStart=>exact ⟨0,Nat.zero_le _,rfl,rfl,rfl,Below.refl _ _⟩
        case round =>
         obtain ⟨k,hk,rfl,HA,HV,hw⟩:=hrel
         obtain ⟨wb,rfl⟩:∃ wb:World,wb=wr:=⟨_,rfl⟩
         have hr:=h.later hw
         have hB:=Qa HB hw
         replace c3:=keep hw c3
         by_cases hlt:k<t.wrs.length
         ·obtain ⟨b,off,x,z,n,tx,rfl,d0,d1,d2,d3,HX⟩:=hr.wrs.at' hlt
          have HY:=Lib.hid (Qg6 hlt HX.out)
          have hsx:x.size<=maxLen:=by have:=hr.wk k hlt;rw [HX.out] at this;exact this
          have hgg:=hr.wv k hlt
          rw [HX.out] at hgg
          have hgb:=hgg.b
          have hgt:=hgg.t
          simp only at hgb hgt
          clear hgg hr
          have hki:(k:Int)<(t.wrs.length:Int):=by omega
          cases hkey:Yb x
          ·have HF:Hid (Qh t=false):=QfA hlt (by simp only [Yx,HY.out,hkey,Bool.false_and])
           go_wp2
           go_quiet ((go_at_call 56;exact YJ (YK _ _ hsx)))
           go_wp2
           go_ret
           exact ⟨Qm HF.out,Qj hB _⟩
          ·obtain ⟨fv,hfv⟩:∃ fv,Ze ⟨z,n,tx⟩=fv:=⟨_,rfl⟩
           cases fv
           ·have HF:Hid (Qh t=false):=Qk5 hlt HX.out hfv
            replace hkey:=Lib.hid hkey
            replace hfv:=Lib.hid hfv
            go_wp2
            have k0:=cell_regrown c3
            have k1:=cell_regrown d0
            have k2:=cell_regrown d1
            have k3:=cell_regrown d2
            have k4:=cell_regrown d3
            have cK:∀ d os,Calls Tryz.prog 56 #[.string x] (grow (redrawn wb d) os) fun e w''=>e = .returned (.bool true)/\∃ p:Regrown,w''=grow (redrawn wb p.d) p.os:=fun d os=>Calls.regrown_of (Qu hkey.out (Vc x _ hsx))
            have cF:∀ d os,Calls Tryz.prog 57 #[.agg #[.int .i64 z,.int .u64 n,.string tx]] (grow (redrawn wb d) os) fun e w''=>e = .returned (.bool false)/\∃ p:Regrown,w''=grow (redrawn wb p.d) p.os:=fun d os=>Calls.regrown_of (Qu hfv.out (YC z n tx hgb hgt _))
            refine wp_region_quiet_below (by kernel_rfl) (by kernel_rfl) ?_
            repeat (go_big_quiet_step (first | exact cK _ _ | exact cF _ _))
            refine wpQuiet_nil ?_
            intro _ hw'
            obtain ⟨⟨dq,osq⟩,hw''⟩:=hw'
            subst hw''
            have HS:=below_regrown wb dq osq
            clear k0 k1 k2 k3 k4 cK cF
            go_wp2
            go_ret
            exact ⟨Qm HF.out,Qa hB HS⟩
           ·have HV2:Hid (Xb (t.wrs.take (k+1))=true):=QdU hlt HX.out hfv HV.out
            by_cases hk0:k=0
            ·have HR:Hid (QB (QT t) (k+1)=true):=Jr HA.out HY.out hkey hk0
             have hg:decide (0<k)=false:=by rw [decide_eq_false_iff_not];omega
             clear hk0
             replace hkey:=Lib.hid hkey
             replace hfv:=Lib.hid hfv
             go_wp2
             have k0:=cell_regrown c3
             have k1:=cell_regrown d0
             have k2:=cell_regrown d1
             have k3:=cell_regrown d2
             have k4:=cell_regrown d3
             have cK:∀ d os,Calls Tryz.prog 56 #[.string x] (grow (redrawn wb d) os) fun e w''=>e = .returned (.bool true)/\∃ p:Regrown,w''=grow (redrawn wb p.d) p.os:=fun d os=>Calls.regrown_of (Qu hkey.out (Vc x _ hsx))
             have cF:∀ d os,Calls Tryz.prog 57 #[.agg #[.int .i64 z,.int .u64 n,.string tx]] (grow (redrawn wb d) os) fun e w''=>e = .returned (.bool true)/\∃ p:Regrown,w''=grow (redrawn wb p.d) p.os:=fun d os=>Calls.regrown_of (Qu hfv.out (YC z n tx hgb hgt _))
             refine wp_region_quiet_below (by kernel_rfl) (by kernel_rfl) ?_
             repeat (go_big_quiet_step (first | exact cK _ _ | exact cF _ _))
             refine wpQuiet_nil ?_
             intro _ hw'
             obtain ⟨⟨dq,osq⟩,hw''⟩:=hw'
             subst hw''
             have HS:=below_regrown wb dq osq
             clear k0 k1 k2 k3 k4 cK cF
             go_wp2
             go_roundw
             case rel=>exact ⟨k+1,by omega,by go_num,HR,HV2,Qa hw HS⟩
             case measure=>simp [intOf];omega
            ·obtain ⟨b',off',y,z',n',tx',e,e0,_,_,_,HZ⟩:=(h.later hw).wrs.at' (k:=k-1) (by omega)
             injection e with e
             injection e with f1 f2
             subst f1 f2
             have HW:=Lib.hid (Qg6 (by omega) HZ.out)
             have hg:decide (0<k)=true:=by rw [decide_eq_true_iff];omega
             have hi:((k:Int)-1).toNat=k-1:=by omega
             have hk1:1<=k:=by omega
             have hk1i:(1:Int)<=(k:Int):=by omega
             have hk2i:(k:Int)-1<(t.wrs.length:Int):=by omega
             have hw1:IntKind.i64.wrap ((k:Int)-1)=(k:Int)-1:=IntWalk.i64_in _ (by omega)
             cases hl:Qy y x
             ·have HF:Hid (Qh t=false):=QfA hlt (by simp only [Yx,HY.out,HW.out,hkey,hl,beq_eq_false_iff_ne.2 hk0,Bool.false_or,Bool.and_false])
              have hl':(Op.bytesLess x.toList y.toList || x.toList == y.toList)=true:=UE hl
              clear hl hk0
              replace hkey:=Lib.hid hkey
              replace hfv:=Lib.hid hfv
              go_wp2
              have k0:=cell_regrown c3
              have k1:=cell_regrown d0
              have k2:=cell_regrown d1
              have k3:=cell_regrown d2
              have k4:=cell_regrown d3
              have k5:=cell_regrown e0
              have cK:∀ d os,Calls Tryz.prog 56 #[.string x] (grow (redrawn wb d) os) fun e w''=>e = .returned (.bool true)/\∃ p:Regrown,w''=grow (redrawn wb p.d) p.os:=fun d os=>Calls.regrown_of (Qu hkey.out (Vc x _ hsx))
              have cF:∀ d os,Calls Tryz.prog 57 #[.agg #[.int .i64 z,.int .u64 n,.string tx]] (grow (redrawn wb d) os) fun e w''=>e = .returned (.bool true)/\∃ p:Regrown,w''=grow (redrawn wb p.d) p.os:=fun d os=>Calls.regrown_of (Qu hfv.out (YC z n tx hgb hgt _))
              refine wp_region_quiet_below (by kernel_rfl) (by kernel_rfl) ?_
              repeat (go_big_quiet_step (first | exact cK _ _ | exact cF _ _))
              refine wpQuiet_nil ?_
              intro _ hw'
              obtain ⟨⟨dq,osq⟩,hw''⟩:=hw'
              subst hw''
              have HS:=below_regrown wb dq osq
              clear k0 k1 k2 k3 k4 k5 cK cF
              go_wp2
              go_ret
              exact ⟨Qm HF.out,Qa hB HS⟩
             ·have HR:Hid (QB (QT t) (k+1)=true):=JP HA.out HY.out HW.out hkey hl
              have hl':(Op.bytesLess x.toList y.toList || x.toList == y.toList)=false:=VW hl
              clear hl hk0
              replace hkey:=Lib.hid hkey
              replace hfv:=Lib.hid hfv
              go_wp2
              have k0:=cell_regrown c3
              have k1:=cell_regrown d0
              have k2:=cell_regrown d1
              have k3:=cell_regrown d2
              have k4:=cell_regrown d3
              have k5:=cell_regrown e0
              have cK:∀ d os,Calls Tryz.prog 56 #[.string x] (grow (redrawn wb d) os) fun e w''=>e = .returned (.bool true)/\∃ p:Regrown,w''=grow (redrawn wb p.d) p.os:=fun d os=>Calls.regrown_of (Qu hkey.out (Vc x _ hsx))
              have cF:∀ d os,Calls Tryz.prog 57 #[.agg #[.int .i64 z,.int .u64 n,.string tx]] (grow (redrawn wb d) os) fun e w''=>e = .returned (.bool true)/\∃ p:Regrown,w''=grow (redrawn wb p.d) p.os:=fun d os=>Calls.regrown_of (Qu hfv.out (YC z n tx hgb hgt _))
              refine wp_region_quiet_below (by kernel_rfl) (by kernel_rfl) ?_
              repeat (go_big_quiet_step (first | exact cK _ _ | exact cF _ _))
              refine wpQuiet_nil ?_
              intro _ hw'
              obtain ⟨⟨dq,osq⟩,hw''⟩:=hw'
              subst hw''
              have HS:=below_regrown wb dq osq
              clear k0 k1 k2 k3 k4 k5 cK cF
              clear hw1
              go_wp2
              go_roundw
              case rel=>exact ⟨k+1,by omega,by go_num,HR,HV2,Qa hw HS⟩
              case measure=>simp [intOf];omega
         ·have ek:k=t.wrs.length:=by omega
          have HF2:Hid (Qh t=true):=by
           show _=_
           have a1:=HA.out
           have a2:=HV.out
           rw [ek] at a1 a2
           rw [List.take_length] at a2
           rw [HF.out,HR.out,a1,a2]
           rfl
          clear ek
          go_wp2
          go_ret
          exact ⟨Qm HF2.out,hB⟩
   ·have HF:Hid (Qh t=false):=by show _=_;rw [Qh];simp [hm]
    go_enter Tryz.func22,Tryz.ntmps22
    go_wp2_with (go_at_call 55;refine (V1 _ _ _).mono ?_;rintro e w1 ⟨rfl,hb⟩;replace c2:=keep hb c2;replace c3:=keep hb c3;replace HB:=Qa HB hb)
    go_ret
    exact ⟨Qm HF.out,HB⟩
  ·have HF:Hid (Qh t=false):=by show _=_;rw [Qh];simp [hn]
   go_enter Tryz.func22,Tryz.ntmps22
   go_wp2_with (go_at_call 55;refine (V1 _ _ _).mono ?_;rintro e w1 ⟨rfl,hb⟩;replace c2:=keep hb c2;replace c3:=keep hb c3;replace HB:=Qa HB hb)
   go_ret
   exact ⟨Qm HF.out,HB⟩
end Go.Proofs.YtcldpmkhpmlcbaaGreatDoor
