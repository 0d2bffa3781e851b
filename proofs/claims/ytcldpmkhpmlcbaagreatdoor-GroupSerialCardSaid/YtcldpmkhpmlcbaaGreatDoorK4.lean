/- part -/
import Derived.Test.YtcldpmkhpmlcbaaGreatDoorJ19
import Derived.Lib.QuietBelow
import Derived.IntWalk
set_option linter.unusedVariables false
set_option linter.unusedSimpArgs false
namespace Go.Proofs.YtcldpmkhpmlcbaaGreatDoor
open Go.RowKit Go.Shelf Go.Sort
theorem Qme {α:Type} {c:Ql} {t:Tx} (h:(Qn c && Qh t)=false) (l m:List α) (q:α->Bool):l.filter (fun x=>Qn c && Qh t && q x)=m.filter (fun x=>Qn c && Qh t && q x):=by
 rw [List.filter_eq_nil_iff.2 (fun x _=>by simp [h]),List.filter_eq_nil_iff.2 (fun x _=>by simp [h])]
set_option maxRecDepth 100000 in
set_option maxHeartbeats 4000000 in
theorem QbE (c:Ql) (t:Tx) (g:Int) (A B A' B':Option Addr) (ca cb ca' cb':Nat) (w:World) (h:Z9 w c A B) (ht:QY w t A' B') (hn:t.rds.length<=1000) :
  Calls Tryz.prog 46 #[.agg #[.slice A c.reps.length ca,.slice B c.bnds.length cb],XA t A' B' ca' cb',.int .i64 g] w (QaS w (Q4 c t g)):=by
 unfold XA
 obtain ⟨W,eW,HB,c0,c1,d0,d1,d2,d3⟩:=Qeo w (.slice A c.reps.length ca) (.slice B c.bnds.length cb) (.int .i64 t.ses) (.int .i64 t.seq) (.slice A' t.rds.length ca') (.slice B' t.wrs.length cb') 25 38
 have h:=h.later HB
 have ht:=ht.later HB
 obtain ⟨i0,hi,hz0,hz1,hz2⟩:=info_parts QiW
 have HL:Hid (Q4 c t g=(t.rds.take t.rds.length).filter (XL c t g)):=by show _=_;rw [List.take_length];rfl
 have HLN:Hid (∀ k,((t.rds.take k).filter (XL c t g)).length<=k):=fun k=>JF _ _ k
 have HNO:Hid ((Qn c && Qh t)=false->∀ k,(t.rds.take k).filter (XL c t g)=Q4 c t g):=fun hno k=>Qme hno _ _ (fun x:Rd=>QO c x.key == g)
 obtain ⟨fc,hfc⟩:∃ r,Hid (Qn c=r):=⟨_,rfl⟩
 obtain ⟨ft,hft⟩:∃ r,Hid (Qh t=r):=⟨_,rfl⟩
 go_enter Tryz.func46,Tryz.ntmps46
 go_wp2_with fail
 clear eW
 go_loopw [7,8] (fun v i wr=>∃ k:Nat,k<=t.rds.length/\i = .int .i64 k/\Hid (wr.ownsRow W.heap.size 77 2 v ((t.rds.take k).filter (XL c t g)).length (XF ((t.rds.take k).filter (XL c t g))))/\Below W.heap.size W wr) (fun _ i _=>t.rds.length-(intOf i).toNat)
 case atStart=>exact ⟨0,Nat.zero_le _,rfl,Q7 _ _ _ _,Below.refl _ _⟩
 case round =>
  obtain ⟨k,hk,rfl,HO,hw⟩:=hrel
  have hl:=HLN.out k
  have hr:=h.later hw
  have htr:=ht.later hw
  have c0:=keep hw c0
  have c1:=keep hw c1
  have d0:=keep hw d0
  have d1:=keep hw d1
  have d2:=keep hw d2
  have d3:=keep hw d3
  by_cases hlt:k<t.rds.length
  ·cases ft
   ·go_wp2_with (go_at_call 22;refine (Qu hft.out (YO t _ _ _ _ _ htr)).mono ?_;rintro e w1 ⟨rfl,hb⟩;replace HO:=Lib.hid (Qi HO.out hb);replace hw:=Qa hw hb;clear hb)
    go_ret
    have:=HO.out
    rw [HNO.out (by rw [hft.out,Bool.and_false]) k] at this
    obtain ⟨A',cap',rfl,_,hI,hF⟩:=Qcz this
    exact ⟨A',cap',rfl,hI,Qa HB hw,fun a e=>Nat.le_trans HB.size (hF a e)⟩
   ·cases fc
    ·go_wp2_with (first
      | (go_at_call 22;refine (Qu hft.out (YO t _ _ _ _ _ htr)).mono ?_;rintro e w1 ⟨rfl,hb⟩;replace HO:=Lib.hid (Qi HO.out hb);replace hw:=Qa hw hb;replace hr:=hr.later hb;replace c0:=keep hb c0;replace c1:=keep hb c1;clear hb)
      | (go_at_call 44;refine (Qu hfc.out (Xg c _ _ _ _ _ hr)).mono ?_;rintro e w2 ⟨rfl,hb⟩;replace HO:=Lib.hid (Qi HO.out hb);replace hw:=Qa hw hb;clear hb))
     go_ret
     have:=HO.out
     rw [HNO.out (by rw [hfc.out,Bool.false_and]) k] at this
     obtain ⟨A',cap',rfl,_,hI,hF⟩:=Qcz this
     exact ⟨A',cap',rfl,hI,Qa HB hw,fun a e=>Nat.le_trans HB.size (hF a e)⟩
    ·obtain ⟨b,off,s,n,rfl,e0,e1,HX⟩:=htr.rds.at' hlt
     have HT:=Lib.hid (QfS (c:=c) (g:=g) hlt HX.out)
     obtain ⟨z,hz⟩:∃ z,Hid (QO c s=z):=⟨_,rfl⟩
     have HZ:Hid ((if Qn c && Qh t && (QO c s == g) then [⟨s,n⟩] else [])=if z == g then [(⟨s,n⟩:Rd)] else []):=by show _=_;rw [hfc.out,hft.out,hz.out,Bool.true_and,Bool.true_and]
     generalize hL:((t.rds.take k).filter (XL c t g))=L at *
     have hLk:L.length<=1000:=by omega
     clear hL
     go_wp2_with (first
      | (go_at_call 22;refine (Qu hft.out (YO t _ _ _ _ _ htr)).mono ?_;rintro e w1 ⟨rfl,hb⟩;replace HO:=Lib.hid (Qi HO.out hb);replace hw:=Qa hw hb;replace hr:=hr.later hb;replace c0:=keep hb c0;replace c1:=keep hb c1;replace d0:=keep hb d0;replace d1:=keep hb d1;replace d2:=keep hb d2;replace d3:=keep hb d3;replace e0:=keep hb e0;replace e1:=keep hb e1;clear hb)
      | (go_at_call 44;refine (Qu hfc.out (Xg c _ _ _ _ _ hr)).mono ?_;rintro e w2 ⟨rfl,hb⟩;replace HO:=Lib.hid (Qi HO.out hb);replace hw:=Qa hw hb;replace hr:=hr.later hb;replace c0:=keep hb c0;replace c1:=keep hb c1;replace d0:=keep hb d0;replace d1:=keep hb d1;replace d2:=keep hb d2;replace d3:=keep hb d3;replace e0:=keep hb e0;replace e1:=keep hb e1;clear hb))
     obtain ⟨wb,rfl⟩:∃ wb:World,wb=w2:=⟨_,rfl⟩
     have k0:=cell_regrown c0
     have k1:=cell_regrown c1
     have k2:=cell_regrown d1
     have k2:=cell_regrown d2
     have k3:=cell_regrown d3
     have k4:=cell_regrown e0
     have q1:∀ d os,Calls Tryz.prog 101 #[.agg #[.slice A c.reps.length ca,.slice B c.bnds.length cb],.string s] (grow (redrawn wb d) os) fun e w''=>e = .returned (.int .i64 z)/\∃ p:Regrown,w''=grow (redrawn wb p.d) p.os:=fun d os=>Calls.regrown_of (JR hz.out (QcS c s A B ca cb _ (hr.later (below_regrown wb d os))))
     refine wp_region_quiet_below (by kernel_rfl) (by kernel_rfl) ?_
     repeat (go_big_quiet_step (first
      | (go_at_call 101;exact q1 _ _)))
     refine wpQuiet_nil ?_
     intro _ hw'
     obtain ⟨⟨dq,osq⟩,hw''⟩:=hw'
     subst hw''
     have HS:=below_regrown wb dq osq
     clear k0 k1 k2 k3 k4 q1
     replace HO:=Lib.hid (Qi HO.out HS)
     replace hw:=Qa hw HS
     replace c0:=keep HS c0
     replace d0:=keep HS d0
     replace d1:=keep HS d1
     replace d2:=keep HS d2
     replace d3:=keep HS d3
     replace e0:=keep HS e0
     replace e1:=keep HS e1
     clear HS
     generalize grow (redrawn wb dq) osq=wc at *
     cases hzg:z == g
     ·go_wp2
      go_roundw
      case rel=>exact ⟨k+1,by omega,by go_num,by show World.ownsRow _ _ _ _ _ _ _;rw [HT.out,HZ.out];simpa [hzg] using HO.out,hw⟩
      case measure=>simp [intOf];omega
     ·go_wp2_with (at_builtin;refine wpList_append_own _ rfl _ _ 35 rfl W.heap.size 77 i0 (.agg #[.string Qt,.int .u64 0]) 2 24 Tryz.underlying35 hi hz0 hz1 hz2 rfl (by decide) _ _ _ rfl (Qi HO.out (Qc _ _)) ⟨wc.heap.size,0,none⟩ 1 1 [.string s,.int .u64 n] rfl rfl (QfR _ _ _ _) QcY (QA (by omega)) (by omega) (Nat.le_trans hw.size (Qc _ _).size) ?_;intro v3 w4 HO3 hg3 _;replace hw:=QX (Qa hw (Qc _ _)) (Nat.le_refl _) (Qi HO.out (Qc _ _)) hg3;replace HO3:=Lib.hid HO3;clear hg3)
      go_roundw
      case rel=>exact ⟨k+1,by omega,by go_num,by show World.ownsRow _ _ _ _ _ _ _;rw [HT.out,HZ.out,hzg];simpa [QbU] using HO3.out,hw⟩
      case measure=>simp [intOf];omega
  ·have ek:k=t.rds.length:=by omega
   go_wp2
   go_ret
   have:=HO.out
   rw [ek, <- HL.out] at this
   obtain ⟨A',cap',rfl,_,hI,hF⟩:=Qcz this
   exact ⟨A',cap',rfl,hI,Qa HB hw,fun a e=>Nat.le_trans HB.size (hF a e)⟩
set_option maxRecDepth 100000 in
set_option maxHeartbeats 4000000 in
theorem QaZ (c:Ql) (t:Tx) (g:Int) (A B A' B':Option Addr) (ca cb ca' cb':Nat) (w:World) (h:Z9 w c A B) (ht:QY w t A' B') (hn:t.wrs.length<=1000) :
  Calls Tryz.prog 47 #[.agg #[.slice A c.reps.length ca,.slice B c.bnds.length cb],XA t A' B' ca' cb',.int .i64 g] w (QaT w (Qr c t g)):=by
 unfold XA
 obtain ⟨W,eW,HB,c0,c1,d0,d1,d2,d3⟩:=Qeo w (.slice A c.reps.length ca) (.slice B c.bnds.length cb) (.int .i64 t.ses) (.int .i64 t.seq) (.slice A' t.rds.length ca') (.slice B' t.wrs.length cb') 25 38
 have h:=h.later HB
 have ht:=ht.later HB
 obtain ⟨i0,hi,hz0,hz1,hz2⟩:=info_parts QiX
 have HL:Hid (Qr c t g=(t.wrs.take t.wrs.length).filter (XM c t g)):=by show _=_;rw [List.take_length];rfl
 have HLN:Hid (∀ k,((t.wrs.take k).filter (XM c t g)).length<=k):=fun k=>JF _ _ k
 have HNO:Hid ((Qn c && Qh t)=false->∀ k,(t.wrs.take k).filter (XM c t g)=Qr c t g):=fun hno k=>Qme hno _ _ (fun x:Wr=>QO c x.key == g)
 obtain ⟨fc,hfc⟩:∃ r,Hid (Qn c=r):=⟨_,rfl⟩
 obtain ⟨ft,hft⟩:∃ r,Hid (Qh t=r):=⟨_,rfl⟩
 go_enter Tryz.func47,Tryz.ntmps47
 go_wp2_with fail
 clear eW
 go_loopw [7,8] (fun v i wr=>∃ k:Nat,k<=t.wrs.length/\i = .int .i64 k/\Hid (wr.ownsRow W.heap.size 79 4 v ((t.wrs.take k).filter (XM c t g)).length (Xc ((t.wrs.take k).filter (XM c t g))))/\Below W.heap.size W wr) (fun _ i _=>t.wrs.length-(intOf i).toNat)
 case atStart=>exact ⟨0,Nat.zero_le _,rfl,Q7 _ _ _ _,Below.refl _ _⟩
 case round =>
  obtain ⟨k,hk,rfl,HO,hw⟩:=hrel
  have hl:=HLN.out k
  have hr:=h.later hw
  have htr:=ht.later hw
  have c0:=keep hw c0
  have c1:=keep hw c1
  have d0:=keep hw d0
  have d1:=keep hw d1
  have d2:=keep hw d2
  have d3:=keep hw d3
  by_cases hlt:k<t.wrs.length
  ·cases ft
   ·go_wp2_with (go_at_call 22;refine (Qu hft.out (YO t _ _ _ _ _ htr)).mono ?_;rintro e w1 ⟨rfl,hb⟩;replace HO:=Lib.hid (Qi HO.out hb);replace hw:=Qa hw hb;clear hb)
    go_ret
    have:=HO.out
    rw [HNO.out (by rw [hft.out,Bool.and_false]) k] at this
    obtain ⟨A',cap',rfl,_,hI,hF⟩:=QcA this
    exact ⟨A',cap',rfl,hI,Qa HB hw,fun a e=>Nat.le_trans HB.size (hF a e)⟩
   ·cases fc
    ·go_wp2_with (first
      | (go_at_call 22;refine (Qu hft.out (YO t _ _ _ _ _ htr)).mono ?_;rintro e w1 ⟨rfl,hb⟩;replace HO:=Lib.hid (Qi HO.out hb);replace hw:=Qa hw hb;replace hr:=hr.later hb;replace c0:=keep hb c0;replace c1:=keep hb c1;clear hb)
      | (go_at_call 44;refine (Qu hfc.out (Xg c _ _ _ _ _ hr)).mono ?_;rintro e w2 ⟨rfl,hb⟩;replace HO:=Lib.hid (Qi HO.out hb);replace hw:=Qa hw hb;clear hb))
     go_ret
     have:=HO.out
     rw [HNO.out (by rw [hfc.out,Bool.false_and]) k] at this
     obtain ⟨A',cap',rfl,_,hI,hF⟩:=QcA this
     exact ⟨A',cap',rfl,hI,Qa HB hw,fun a e=>Nat.le_trans HB.size (hF a e)⟩
    ·obtain ⟨b,off,s,zz,n,x,rfl,e0,e1,e2,e3,HX⟩:=htr.wrs.at' hlt
     have HT:=Lib.hid (Qeq (c:=c) (g:=g) hlt HX.out)
     obtain ⟨z,hz⟩:∃ z,Hid (QO c s=z):=⟨_,rfl⟩
     have HZ:Hid ((if Qn c && Qh t && (QO c s == g) then [⟨s,⟨zz,n,x⟩⟩] else [])=if z == g then [(⟨s,⟨zz,n,x⟩⟩:Wr)] else []):=by show _=_;rw [hfc.out,hft.out,hz.out,Bool.true_and,Bool.true_and]
     generalize hL:((t.wrs.take k).filter (XM c t g))=L at *
     have hLk:L.length<=1000:=by omega
     clear hL
     go_wp2_with (first
      | (go_at_call 22;refine (Qu hft.out (YO t _ _ _ _ _ htr)).mono ?_;rintro e w1 ⟨rfl,hb⟩;replace HO:=Lib.hid (Qi HO.out hb);replace hw:=Qa hw hb;replace hr:=hr.later hb;replace c0:=keep hb c0;replace c1:=keep hb c1;replace d0:=keep hb d0;replace d1:=keep hb d1;replace d2:=keep hb d2;replace d3:=keep hb d3;replace e0:=keep hb e0;replace e1:=keep hb e1;replace e2:=keep hb e2;replace e3:=keep hb e3;clear hb)
      | (go_at_call 44;refine (Qu hfc.out (Xg c _ _ _ _ _ hr)).mono ?_;rintro e w2 ⟨rfl,hb⟩;replace HO:=Lib.hid (Qi HO.out hb);replace hw:=Qa hw hb;replace hr:=hr.later hb;replace c0:=keep hb c0;replace c1:=keep hb c1;replace d0:=keep hb d0;replace d1:=keep hb d1;replace d2:=keep hb d2;replace d3:=keep hb d3;replace e0:=keep hb e0;replace e1:=keep hb e1;replace e2:=keep hb e2;replace e3:=keep hb e3;clear hb))
     obtain ⟨wb,rfl⟩:∃ wb:World,wb=w2:=⟨_,rfl⟩
     have k0:=cell_regrown c0
     have k1:=cell_regrown c1
     have k2:=cell_regrown d1
     have k2:=cell_regrown d2
     have k3:=cell_regrown d3
     have k4:=cell_regrown e0
     have q1:∀ d os,Calls Tryz.prog 101 #[.agg #[.slice A c.reps.length ca,.slice B c.bnds.length cb],.string s] (grow (redrawn wb d) os) fun e w''=>e = .returned (.int .i64 z)/\∃ p:Regrown,w''=grow (redrawn wb p.d) p.os:=fun d os=>Calls.regrown_of (JR hz.out (QcS c s A B ca cb _ (hr.later (below_regrown wb d os))))
     refine wp_region_quiet_below (by kernel_rfl) (by kernel_rfl) ?_
     repeat (go_big_quiet_step (first
      | (go_at_call 101;exact q1 _ _)))
     refine wpQuiet_nil ?_
     intro _ hw'
     obtain ⟨⟨dq,osq⟩,hw''⟩:=hw'
     subst hw''
     have HS:=below_regrown wb dq osq
     clear k0 k1 k2 k3 k4 q1
     replace HO:=Lib.hid (Qi HO.out HS)
     replace hw:=Qa hw HS
     replace c0:=keep HS c0
     replace d0:=keep HS d0
     replace d1:=keep HS d1
     replace d2:=keep HS d2
     replace d3:=keep HS d3
     replace e0:=keep HS e0
     replace e1:=keep HS e1
     replace e2:=keep HS e2
     replace e3:=keep HS e3
     clear HS
     generalize grow (redrawn wb dq) osq=wc at *
     cases hzg:z == g
     ·go_wp2
      go_roundw
      case rel=>exact ⟨k+1,by omega,by go_num,by show World.ownsRow _ _ _ _ _ _ _;rw [HT.out,HZ.out];simpa [hzg] using HO.out,hw⟩
      case measure=>simp [intOf];omega
     ·go_wp2_with (at_builtin;refine wpList_append_own _ rfl _ _ 36 rfl W.heap.size 79 i0 (.agg #[.string Qt,.int .i64 0,.int .u64 0,.string Qt]) 4 48 Tryz.underlying36 hi hz0 hz1 hz2 rfl (by decide) _ _ _ rfl (Qi HO.out (Qc _ _)) ⟨wc.heap.size,0,none⟩ 1 1 [.string s,.int .i64 zz,.int .u64 n,.string x] rfl rfl (Qep _ _ _ _ _ _) QcZ (QA (by omega)) (by omega) (Nat.le_trans hw.size (Qc _ _).size) ?_;intro v3 w4 HO3 hg3 _;replace hw:=QX (Qa hw (Qc _ _)) (Nat.le_refl _) (Qi HO.out (Qc _ _)) hg3;replace HO3:=Lib.hid HO3;clear hg3)
      go_roundw
      case rel=>exact ⟨k+1,by omega,by go_num,by show World.ownsRow _ _ _ _ _ _ _;rw [HT.out,HZ.out,hzg];simpa [QbV] using HO3.out,hw⟩
      case measure=>simp [intOf];omega
  ·have ek:k=t.wrs.length:=by omega
   go_wp2
   go_ret
   have:=HO.out
   rw [ek, <- HL.out] at this
   obtain ⟨A',cap',rfl,_,hI,hF⟩:=QcA this
   exact ⟨A',cap',rfl,hI,Qa HB hw,fun a e=>Nat.le_trans HB.size (hF a e)⟩
def KI (c:Ql) (t:Tx) (g:Nat):Bool:=decide (0<(Q4 c t g).length+(Qr c t g).length)
def Jn (c:Ql) (t:Tx) (k:Nat):List Int:=((List.range k).filter (KI c t)).map Int.ofNat
theorem QeJ (c:Ql) (t:Tx) (k:Nat):Jn c t (k+1)=Jn c t k ++ if KI c t k then [(k:Int)] else []:=by
 unfold Jn
 rw [List.range_succ,List.filter_append,List.map_append]
 congr 1
 by_cases h:KI c t k <;> simp [h]
theorem Qcl (c:Ql) (t:Tx):∀ k,(Jn c t k).length<=k
 | 0=>by simp [Jn]
 | k+1=>by
  have:=Qcl c t k
  rw [QeJ,List.length_append]
  split <;> simp <;> omega
theorem Qmf (c:Ql) (t:Tx):Jn c t c.reps.length=Qf c t:=by
 cases hc:Qn c
 ·have:∀ g,KI c t g=false:=fun g=>by
   have:=QfB (c:=c) (t:=t) (by rw [hc,Bool.false_and]) g
   simp [KI,this.1,this.2]
  simp [Jn,Qf,Y0,hc,List.filter_eq_nil_iff,this]
 ·cases ht:Qh t
  ·have:∀ g,KI c t g=false:=fun g=>by
    have:=QfB (c:=c) (t:=t) (by rw [ht,Bool.and_false]) g
    simp [KI,this.1,this.2]
   simp [Jn,Qf,ht,List.filter_eq_nil_iff,this]
  ·have:KI c t=Xv c (QJ t ++ QT t):=funext fun g=>Qk6 c t g hc ht
   simp [Jn,Qf,ht,Y0,hc,Xh,this]
set_option maxRecDepth 100000 in
set_option maxHeartbeats 4000000 in
theorem Qfe (c:Ql) (t:Tx) (A B A' B':Option Addr) (ca cb ca' cb':Nat) (w:World) (h:Z9 w c A B) (ht:QY w t A' B') (hn:t.rds.length<=1000) (hm:t.wrs.length<=1000) (hc20:c.reps.length<=20) :
  Calls Tryz.prog 16 #[.agg #[.slice A c.reps.length ca,.slice B c.bnds.length cb],XA t A' B' ca' cb'] w (QgF w (Qf c t)):=by
 unfold XA
 obtain ⟨W,eW,HB,c0,c1,d0,d1,d2,d3⟩:=Qeo w (.slice A c.reps.length ca) (.slice B c.bnds.length cb) (.int .i64 t.ses) (.int .i64 t.seq) (.slice A' t.rds.length ca') (.slice B' t.wrs.length cb') 25 38
 have h:=h.later HB
 have ht:=ht.later HB
 have HE:Hid (Qf c t=Jn c t c.reps.length):=(Qmf c t).symm
 have HLN:Hid (∀ k,(Jn c t k).length<=k):=Qcl c t
 obtain ⟨i0,hi,hz0,hz1,hz2⟩:=info_parts Qg4
 go_enter Tryz.func16,Tryz.ntmps16
 go_wp2_with fail
 clear eW
 go_loopw [5,6] (fun v i wr=>∃ k:Nat,k<=c.reps.length/\i = .int .i64 k/\Hid (wr.ownsRow W.heap.size 3 1 v (Jn c t k).length ((Jn c t k).map (Value.int .i64)))/\Below W.heap.size W wr) (fun _ i _=>c.reps.length-(intOf i).toNat)
 case atStart=>exact ⟨0,Nat.zero_le _,rfl,Q7 _ _ _ _,Below.refl _ _⟩
 case round =>
  obtain ⟨k,hk,rfl,HO,hw⟩:=hrel
  have hl:=HLN.out k
  have h:=h.later hw
  have ht:=ht.later hw
  have c0:=keep hw c0
  have c1:=keep hw c1
  have d0:=keep hw d0
  have d1:=keep hw d1
  have d2:=keep hw d2
  have d3:=keep hw d3
  by_cases hlt:k<c.reps.length
  ·have HR:=Lib.hid (QbE c t k A B A' B' ca cb ca' cb' · · · hn)
   have HW:=Lib.hid (QaZ c t k A B A' B' ca cb ca' cb' · · · hm)
   have HS:Hid (Jn c t (k+1)=Jn c t k ++ if KI c t k then [(k:Int)] else []):=QeJ c t k
   have hx:(Q4 c t k).length<=1000:=Nat.le_trans (List.length_filter_le _ _) hn
   have hy:(Qr c t k).length<=1000:=Nat.le_trans (List.length_filter_le _ _) hm
   have HA:Hid (KI c t k=decide ((0:Int)<((Q4 c t k).length:Int)+((Qr c t k).length:Int))):=by
    show _=_
    unfold KI
    congr 1
    rw [eq_iff_iff];omega
   obtain ⟨any,hany⟩:∃ r,Hid (KI c t k=r):=⟨_,rfl⟩
   generalize hrl:Q4 c t k=rl at *
   generalize hwl:Qr c t k=wl at *
   have hwr:IntKind.i64.wrap ((rl.length:Int)+(wl.length:Int))=(rl.length:Int)+(wl.length:Int):=IntWalk.i64_in _ (by omega)
   have hq:decide ((0:Int)<(rl.length:Int)+(wl.length:Int))=any:=by rw [<- HA.out,hany.out]
   clear hx hy
   unfold XA at HR HW
   go_wp2_with fail
   go_region_held3 (fun w'=>w'.cell? ⟨w.heap.size,0,none⟩=some (.slice A c.reps.length ca)/\w'.cell? ⟨w.heap.size,1,none⟩=some (.slice B c.bnds.length cb)/\w'.cell? ⟨w.heap.size+1,0,none⟩=some (.int .i64 t.ses)/\w'.cell? ⟨w.heap.size+1,1,none⟩=some (.int .i64 t.seq)/\w'.cell? ⟨w.heap.size+1,2,none⟩=some (.slice A' t.rds.length ca')/\w'.cell? ⟨w.heap.size+1,3,none⟩=some (.slice B' t.wrs.length cb')/\Below wr.heap.size wr w')
    (first | exact ⟨c0,c1,d0,d1,d2,d3,Qb (Below.refl _ _)⟩ | exact ⟨keep hb2 c0,keep hb2 c1,keep hb2 d0,keep hb2 d1,keep hb2 d2,keep hb2 d3,hb2⟩ | exact ⟨keep hb3 c0,keep hb3 c1,keep hb3 d0,keep hb3 d1,keep hb3 d2,keep hb3 d3,hb3⟩)
    (first
     | (go_at_call 46;refine (HR.out _ (h.later (Qb (Below.refl _ _))) (ht.later (Qb (Below.refl _ _)))).mono ?_;rintro e w2 ⟨K,ck,rfl,_,hb,_⟩;have hb2:Below wr.heap.size wr w2:=Qa (Qb (Below.refl _ _)) hb)
     | (go_at_call 47;refine (HW.out _ (h.later hb2) (ht.later hb2)).mono ?_;rintro e w3 ⟨I,ci,rfl,_,hb',_⟩;have hb3:=Qa hb2 hb'))
   replace HO:=Lib.hid (Qi HO.out hb3)
   replace hw:=Qa hw hb3
   clear hb3 hb2 hb hb' hwr HR HW
   cases any
   ·go_wp2
    go_roundw
    case rel=>exact ⟨k+1,by omega,by go_num,by show World.ownsRow _ _ _ _ _ _ _;rw [HS.out,hany.out];simpa using HO.out,hw⟩
    case measure=>simp [intOf];omega
   ·go_wp2_with (at_builtin;refine wpList_append_own _ rfl _ _ 22 rfl W.heap.size 3 i0 (.int .i64 0) 1 8 Tryz.underlying22 hi hz0 hz1 hz2 rfl (by decide) _ _ _ rfl (Qi HO.out (Qc _ _)) ⟨w3.heap.size,0,none⟩ 1 1 [.int .i64 k] rfl rfl (cell_one_new _ _ _) QbH (QA (by omega)) (by omega) (Nat.le_trans hw.size (Qc _ _).size) ?_;intro v3 w4 HO3 hg3 _;replace hw:=QX (hw.alloc hw.size _) (Nat.le_refl _) (Qi HO.out (Qc _ _)) hg3;replace HO3:=Lib.hid HO3;clear hg3)
    go_roundw
    case rel=>exact ⟨k+1,by omega,by go_num,by show World.ownsRow _ _ _ _ _ _ _;rw [HS.out,hany.out];simpa using HO3.out,hw⟩
    case measure=>simp [intOf];omega
  ·have ek:k=c.reps.length:=by omega
   go_wp2
   go_ret
   have:=HO.out
   rw [ek, <- HE.out] at this
   obtain ⟨A',cap',rfl,_,hI⟩:=KL this
   exact ⟨A',cap',rfl,hI,Qa HB hw⟩
end Go.Proofs.YtcldpmkhpmlcbaaGreatDoor
