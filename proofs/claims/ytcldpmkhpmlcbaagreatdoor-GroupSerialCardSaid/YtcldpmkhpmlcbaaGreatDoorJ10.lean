/- part -/
import Derived.Test.YtcldpmkhpmlcbaaGreatDoorJ6
import Derived.Laws.StructEq
import Derived.Test.YtcldpmkhpmlcbaaGreatDoorJ9
import Derived.Lib.QuietBelow
import Derived.BigQuiet
import Derived.Deep.RegionHeld3
import Derived.Test.YtcldpmkhpmlcbaaGreatDoorShelfH
import Derived.RangeFuncBox
import Derived.RangeFuncLeaves
import Derived.Shelf.Abstract
import Derived.WalkKit
import Derived.OwnWalkIn
import Derived.TacticsInMore
import Derived.LoopNIn
import Derived.LoopIn
import Derived.Maps.AppendAt
import Derived.Test.YtcldpmkhpmlcbaaGreatDoorJ8
set_option linter.unusedVariables false
set_option linter.unusedSimpArgs false
namespace Go.Proofs.YtcldpmkhpmlcbaaGreatDoor
open Go.RowKit
def Qdk (x y:Rd):Bool:=x.key.toList == y.key.toList && (x.ver:Int) == (y.ver:Int)
def Qdl (x y:Wr):Bool:=x.key.toList == y.key.toList && x.val.kind == y.val.kind && (x.val.bits:Int) == (y.val.bits:Int) && x.val.text.toList == y.val.text.toList
def JG (l m:List Rd):Nat->Bool
 | 0=>true
 | k+1=>JG l m k && Qdk (l.getD k XB) (m.getD k XB)
def JH (l m:List Wr):Nat->Bool
 | 0=>true
 | k+1=>JH l m k && Qdl (l.getD k Zf) (m.getD k Zf)
def Uq (l m:List Rd):Bool:=decide (l.length=m.length) && JG l m l.length
def Ur (l m:List Wr):Bool:=decide (l.length=m.length) && JH l m l.length
def Us (a b c d:Int):Bool:=a == c && b == d
def Ut (a b:Tx):Bool:=Us a.ses a.seq b.ses b.seq && Uq a.rds b.rds && Ur a.wrs b.wrs
theorem Qib {l m:List Rd} {k n:Nat} (hk:k<n) (h:Qdk (l.getD k XB) (m.getD k XB)=false):JG l m n=false:=by
 induction n with
 | zero=>omega
 | succ n ih =>
  by_cases e:k=n
  ·subst e;simp only [JG,h,Bool.and_false]
  ·simp [JG,ih (by omega)]
theorem Qic {l m:List Wr} {k n:Nat} (hk:k<n) (h:Qdl (l.getD k Zf) (m.getD k Zf)=false):JH l m n=false:=by
 induction n with
 | zero=>omega
 | succ n ih =>
  by_cases e:k=n
  ·subst e;simp only [JH,h,Bool.and_false]
  ·simp [JH,ih (by omega)]
theorem Qnt (a b c d:Int) (w:World):(binOp .eql 34 (.agg #[.int .i64 a,.int .i64 b]) (.agg #[.int .i64 c,.int .i64 d])).run Tryz.prog w = .ok (.bool (Us a b c d)) w:=by
 unfold Us
 simp [go_sem]
 by_cases h1:a=c <;> by_cases h2:b=d <;> simp [h1,h2]
theorem Qo2 (s t:ByteArray) (m n:Nat) (w:World):(binOp .neq 77 (.agg #[.string s,.int .u64 m]) (.agg #[.string t,.int .u64 n])).run Tryz.prog w = .ok (.bool (!Qdk ⟨s,m⟩ ⟨t,n⟩)) w:=by
 unfold Qdk
 simp [go_sem]
 by_cases h1:s.toList=t.toList <;> by_cases h2:(m:Int)=(n:Int) <;> simp [h1,h2]
theorem Qo3 (s t:ByteArray) (k j:Int) (m n:Nat) (x y:ByteArray) (w:World):(binOp .neq 79 (.agg #[.string s,.int .i64 k,.int .u64 m,.string x]) (.agg #[.string t,.int .i64 j,.int .u64 n,.string y])).run Tryz.prog w = .ok (.bool (!Qdl ⟨s,⟨k,m,x⟩⟩ ⟨t,⟨j,n,y⟩⟩)) w:=by
 unfold Qdl
 simp [go_sem]
 by_cases h1:s.toList=t.toList <;> by_cases h2:k=j <;> by_cases h3:(m:Int)=(n:Int) <;> by_cases h4:x.toList=y.toList <;> simp [h1,h2,h3,h4]
set_option maxRecDepth 100000 in
set_option maxHeartbeats 1000000 in
theorem QnN (l m:List Rd) (nn:Nat) (hl:Hid (l.length=nn)) (hm:Hid (m.length=nn)) (A B:Option Addr) (ca cb:Nat) (w:World) (hA:Xj w A l) (hB:Xj w B m) (hn:nn<=9223372036854775807) :
  Calls Tryz.prog 178 #[.slice A nn ca,.slice B nn cb] w fun e w'=>e = .returned (.bool (JG l m nn))/\Below w.heap.size w w':=by
 go_enter Tryz.func178,Tryz.ntmps178
 go_wp2
 go_loopw [13] (fun i wr=>∃ k:Nat,k<=nn/\i = .int .i64 k/\Hid (JG l m k=true)/\Below w.heap.size w wr) (fun i _=>nn-(intOf i).toNat)
 case atStart=>exact ⟨0,Nat.zero_le _,rfl,rfl,Below.refl _ _⟩
 case round =>
  obtain ⟨k,hk,rfl,HA,hw⟩:=hrel
  by_cases hlt:k<nn
  ·obtain ⟨b,off,s,n,rfl,d0,d1,HX⟩:=(hA.later hw).at' (k:=k) (by rw [hl.out];exact hlt)
   obtain ⟨b',off',s',n',rfl,e0,e1,HY⟩:=(hB.later hw).at' (k:=k) (by rw [hm.out];exact hlt)
   have hki:(k:Int)<nn:=by omega
   have hx:∀ w,(binOp .neq 77 (.agg #[.string s,.int .u64 n]) (.agg #[.string s',.int .u64 n'])).run Tryz.prog w = .ok (.bool (!Qdk ⟨s,n⟩ ⟨s',n'⟩)) w:=Qo2 s s' n n'
   cases hq:Qdk ⟨s,n⟩ ⟨s',n'⟩
   ·have HF:Hid (JG l m nn=false):=Qib hlt (by rw [HX.out,HY.out];exact hq)
    rw [hq] at hx
    clear hq
    go_wp2
    go_quiet (fail)
    go_wp2
    go_ret
    exact ⟨Qm HF.out,Qj hw _⟩
   ·have HR:Hid (JG l m (k+1)=true):=by show _=_;rw [JG,HA.out,HX.out,HY.out,hq];rfl
    rw [hq] at hx
    clear hq
    go_wp2
    go_quiet (fail)
    go_wp2
    go_roundw
    case rel=>exact ⟨k+1,by omega,by go_num,HR,Qj hw _⟩
    case measure=>simp [intOf];omega
  ·have ek:k=nn:=by omega
   have HF:Hid (JG l m nn=true):=by show _=_;rw [<- ek];exact HA.out
   clear ek
   go_wp2
   go_ret
   exact ⟨Qm HF.out,hw⟩
set_option maxRecDepth 100000 in
theorem QnO (l m:List Rd) (A B:Option Addr) (ca cb:Nat) (w:World) (hA:Xj w A l) (hB:Xj w B m) (hn:l.length<=9223372036854775807) :
  Calls Tryz.prog 178 #[.slice A l.length ca,.slice B m.length cb] w fun e w'=>e = .returned (.bool (Uq l m))/\Below w.heap.size w w':=by
 by_cases h:l.length=m.length
 ·have:=QnN l m l.length rfl h.symm A B ca cb w hA hB hn
  rw [show Uq l m=JG l m l.length by simp [Uq,h], <- h]
  exact this
 ·have HF:Hid (Uq l m=false):=by show _=_;simp [Uq,h]
  have h':¬ (l.length:Int)=(m.length:Int):=by omega
  clear h
  go_enter Tryz.func178,Tryz.ntmps178
  go_wp2
  go_ret
  exact ⟨Qm HF.out,Below.refl _ _⟩
set_option maxRecDepth 100000 in
set_option maxHeartbeats 1000000 in
theorem QnP (l m:List Wr) (nn:Nat) (hl:Hid (l.length=nn)) (hm:Hid (m.length=nn)) (A B:Option Addr) (ca cb:Nat) (w:World) (hA:Yf w A l) (hB:Yf w B m) (hn:nn<=9223372036854775807) :
  Calls Tryz.prog 179 #[.slice A nn ca,.slice B nn cb] w fun e w'=>e = .returned (.bool (JH l m nn))/\Below w.heap.size w w':=by
 go_enter Tryz.func179,Tryz.ntmps179
 go_wp2
 go_loopw [13] (fun i wr=>∃ k:Nat,k<=nn/\i = .int .i64 k/\Hid (JH l m k=true)/\Below w.heap.size w wr) (fun i _=>nn-(intOf i).toNat)
 case atStart=>exact ⟨0,Nat.zero_le _,rfl,rfl,Below.refl _ _⟩
 case round =>
  obtain ⟨k,hk,rfl,HA,hw⟩:=hrel
  by_cases hlt:k<nn
  ·obtain ⟨b,off,s,z,n,x,rfl,d0,d1,d2,d3,HX⟩:=(hA.later hw).at' (k:=k) (by rw [hl.out];exact hlt)
   obtain ⟨b',off',s',z',n',x',rfl,e0,e1,e2,e3,HY⟩:=(hB.later hw).at' (k:=k) (by rw [hm.out];exact hlt)
   have hki:(k:Int)<nn:=by omega
   have hx:∀ w,(binOp .neq 79 (.agg #[.string s,.int .i64 z,.int .u64 n,.string x]) (.agg #[.string s',.int .i64 z',.int .u64 n',.string x'])).run Tryz.prog w = .ok (.bool (!Qdl ⟨s,⟨z,n,x⟩⟩ ⟨s',⟨z',n',x'⟩⟩)) w:=Qo3 s s' z z' n n' x x'
   cases hq:Qdl ⟨s,⟨z,n,x⟩⟩ ⟨s',⟨z',n',x'⟩⟩
   ·have HF:Hid (JH l m nn=false):=Qic hlt (by rw [HX.out,HY.out];exact hq)
    rw [hq] at hx
    clear hq
    go_wp2
    go_quiet (fail)
    go_wp2
    go_ret
    exact ⟨Qm HF.out,Qj hw _⟩
   ·have HR:Hid (JH l m (k+1)=true):=by show _=_;rw [JH,HA.out,HX.out,HY.out,hq];rfl
    rw [hq] at hx
    clear hq
    go_wp2
    go_quiet (fail)
    go_wp2
    go_roundw
    case rel=>exact ⟨k+1,by omega,by go_num,HR,Qj hw _⟩
    case measure=>simp [intOf];omega
  ·have ek:k=nn:=by omega
   have HF:Hid (JH l m nn=true):=by show _=_;rw [<- ek];exact HA.out
   clear ek
   go_wp2
   go_ret
   exact ⟨Qm HF.out,hw⟩
set_option maxRecDepth 100000 in
theorem QnQ (l m:List Wr) (A B:Option Addr) (ca cb:Nat) (w:World) (hA:Yf w A l) (hB:Yf w B m) (hn:l.length<=9223372036854775807) :
  Calls Tryz.prog 179 #[.slice A l.length ca,.slice B m.length cb] w fun e w'=>e = .returned (.bool (Ur l m))/\Below w.heap.size w w':=by
 by_cases h:l.length=m.length
 ·have:=QnP l m l.length rfl h.symm A B ca cb w hA hB hn
  rw [show Ur l m=JH l m l.length by simp [Ur,h], <- h]
  exact this
 ·have HF:Hid (Ur l m=false):=by show _=_;simp [Ur,h]
  have h':¬ (l.length:Int)=(m.length:Int):=by omega
  clear h
  go_enter Tryz.func179,Tryz.ntmps179
  go_wp2
  go_ret
  exact ⟨Qm HF.out,Below.refl _ _⟩
theorem Qo4 (w:World) (a b c d a' b' c' d':Value) (t:TypeId):∃ W:World,(w.alloc (.cells #[a,b,c,d] t)).alloc (.cells #[a',b',c',d'] t)=W/\Below w.heap.size w W/\W.cell? ⟨w.heap.size,0,none⟩=some a/\W.cell? ⟨w.heap.size,1,none⟩=some b/\W.cell? ⟨w.heap.size,2,none⟩=some c/\W.cell? ⟨w.heap.size,3,none⟩=some d/\W.cell? ⟨w.heap.size+1,0,none⟩=some a'/\W.cell? ⟨w.heap.size+1,1,none⟩=some b'/\W.cell? ⟨w.heap.size+1,2,none⟩=some c'/\W.cell? ⟨w.heap.size+1,3,none⟩=some d' :=
 ⟨_,rfl,ZL _ _ _,by simp [go_sem],by simp [go_sem],by simp [go_sem],by simp [go_sem],by simp [go_sem],by simp [go_sem],by simp [go_sem],by simp [go_sem]⟩
set_option maxRecDepth 100000 in
set_option maxHeartbeats 2000000 in
theorem QjB (a b:Tx) (A B A' B':Option Addr) (ca cb ca' cb':Nat) (w:World) (ha:QY w a A B) (hb':QY w b A' B') :
  Calls Tryz.prog 134 #[XA a A B ca cb,XA b A' B' ca' cb'] w fun e w'=>e = .returned (.bool (Ut a b))/\Below w.heap.size w w':=by
 unfold XA
 obtain ⟨W,eW,HB,c0,c1,c2,c3,e0,e1,e2,e3⟩:=Qo4 w (.int .i64 a.ses) (.int .i64 a.seq) (.slice A a.rds.length ca) (.slice B a.wrs.length cb) (.int .i64 b.ses) (.int .i64 b.seq) (.slice A' b.rds.length ca') (.slice B' b.wrs.length cb') 38
 have ha:=ha.later HB
 have hb':=hb'.later HB
 have hrn:=ha.rn
 have hwn:=ha.wn
 have hrn':=hb'.rn
 have hwn':=hb'.wn
 have hx:=Qnt a.ses a.seq b.ses b.seq
 cases hid:Us a.ses a.seq b.ses b.seq
 ·have HF:Hid (Ut a b=false):=by show _=_;rw [Ut,hid];rfl
  rw [hid] at hx
  clear hid
  go_enter Tryz.func134,Tryz.ntmps134
  go_wp2
  go_ret
  exact ⟨Qm HF.out,HB⟩
 ·have HF:Hid (Ut a b=(Uq a.rds b.rds && Ur a.wrs b.wrs)):=by show _=_;rw [Ut,hid];rfl
  rw [hid] at hx
  clear hid
  obtain ⟨r1,hr1⟩:∃ r,Hid (Uq a.rds b.rds=r):=⟨_,rfl⟩
  obtain ⟨r2,hr2⟩:∃ r,Hid (Ur a.wrs b.wrs=r):=⟨_,rfl⟩
  replace HF:=Lib.hid HF.out
  rw [hr1.out,hr2.out] at HF
  cases r1
  all_goals
   go_enter Tryz.func134,Tryz.ntmps134
   go_wp2_with (first
    | (go_at_call 178;refine (Qu hr1.out (QnO _ _ _ _ _ _ _ ha.rds hb'.rds hrn)).mono ?_;rintro e w1 ⟨rfl,hb⟩;replace c2:=keep hb c2;replace c3:=keep hb c3;replace e2:=keep hb e2;replace e3:=keep hb e3;replace ha:=ha.later hb;replace hb':=hb'.later hb;replace HB:=Qa HB hb;clear hb)
    | (go_at_call 179;refine (Qu hr2.out (QnQ _ _ _ _ _ _ _ ha.wrs hb'.wrs hwn)).mono ?_;rintro e w1 ⟨rfl,hb⟩;replace c2:=keep hb c2;replace c3:=keep hb c3;replace e2:=keep hb e2;replace e3:=keep hb e3;replace ha:=ha.later hb;replace hb':=hb'.later hb;replace HB:=Qa HB hb;clear hb))
   go_ret
   exact ⟨Qm (by rw [HF.out];simp),HB⟩
open Go.Shelf Go.Maps
theorem YN.form {w w':World} (h:YN w w'):∃ q os',w'=Go.Sort.grow (w.drewN q) os':=by
 obtain ⟨p,hp⟩:=regrown_of_below h.1
 have hd:=h.2
 refine ⟨w'.drawn-w.drawn,p.os,?_⟩
 have e:w'.drawn=p.d:=by rw [hp];rfl
 have e2:w.drewN (w'.drawn-w.drawn)=redrawn w p.d:=by
  unfold World.drewN redrawn
  rw [show w.drawn+(w'.drawn-w.drawn)=p.d by omega]
 rw [e2]
 exact hp
def Qd5 (w:World) (v:Value) (e:Ending) (w':World):Prop:=e = .returned v/\YN w w'
theorem Qov (w:World) (a b:Obj):YN w ((w.alloc a).alloc b):=⟨ZL _ _ _,Nat.le_refl _⟩
theorem Qow (s q s' q':Int) (w:World):Calls Tryz.prog 189 #[.agg #[.int .i64 s,.int .i64 q],.agg #[.int .i64 s',.int .i64 q']] w (Qd5 w (.bool (YG ⟨s,q⟩ ⟨s',q'⟩))):=by
 have HI:Hid (YG ⟨s,q⟩ ⟨s',q'⟩=(decide (s<s') || (decide (s=s') && decide (q<q')))):=rfl
 go_enter Tryz.func189,Tryz.ntmps189
 go_wp2
 all_goals go_ret
 all_goals refine ⟨Qm ?_,Qov _ _ _⟩
 all_goals rw [HI.out]
 all_goals simp_all
theorem QjC (s:Int) (w:World):Calls Tryz.prog 207 #[.int .u64 s] w fun e w'=>e = .returned (.bool false)/\w=w':=by
 go_enter Tryz.func207,Tryz.ntmps207
 go_wp2
 go_ret
 exact ⟨by simp,rfl⟩
def US (a b:Nat):Int:=if a<b then -1 else if b<a then 1 else 0
theorem Yo {a b:Int} (h:a=b):Ending.returned (.int .i64 b) = .returned (.int .i64 a):=by rw [h]
theorem Qo5 (a b:Nat) (w:World):Calls Tryz.prog 188 #[.int .u64 (a:Int),.int .u64 (b:Int)] w fun e w'=>e = .returned (.int .i64 (US a b))/\w=w':=by
 by_cases h1:a<b
 ·have HC:Hid (US a b = -1):=by show _=_;rw [US,if_pos h1]
  have q1:(a:Int)<(b:Int):=by omega
  go_enter Tryz.func188,Tryz.ntmps188
  go_wp2_with (go_at_call 207;refine (QjC _ _).mono ?_;rintro e w1 ⟨rfl,rfl⟩)
  go_ret
  exact ⟨Yo HC.out,rfl⟩
 ·have q1:¬ ((a:Int)<(b:Int)):=by omega
  by_cases h2:b<a
  ·have HC:Hid (US a b=1):=by show _=_;rw [US,if_neg h1,if_pos h2]
   have q2:(b:Int)<(a:Int):=by omega
   go_enter Tryz.func188,Tryz.ntmps188
   go_wp2_with (go_at_call 207;refine (QjC _ _).mono ?_;rintro e w1 ⟨rfl,rfl⟩)
   go_ret
   exact ⟨Yo HC.out,rfl⟩
  ·have HC:Hid (US a b=0):=by show _=_;rw [US,if_neg h1,if_neg h2]
   have q2:¬ ((b:Int)<(a:Int)):=by omega
   go_enter Tryz.func188,Tryz.ntmps188
   go_wp2_with (go_at_call 207;refine (QjC _ _).mono ?_;rintro e w1 ⟨rfl,rfl⟩)
   go_ret
   exact ⟨Yo HC.out,rfl⟩
theorem Qk9 {a b:Nat} (h:a=b):Ending.returned (.int .u64 (b:Int)) = .returned (.int .u64 (a:Int)):=by rw [h]
theorem wf_u64 {c:Int} (h:(Lit.int .u64 c).wf=true):∃ n:Nat,c=(n:Int):=by
 refine ⟨c.toNat,?_⟩
 have:0<=c:=by
  have hm:IntKind.u64.min=0:=by decide
  simp [Lit.wf,hm] at h
  omega
 omega
theorem QmG (a b:Nat):max (a:Int) (b:Int)=((max a b:Nat):Int):=by omega
set_option maxRecDepth 100000 in
set_option maxHeartbeats 2000000 in
theorem UC {w:World} {B p mb:Nat} {gv:Value} {o:Qz} (h:Z4 w B p mb gv o) (hn:(o.known.map (·.1)).Nodup) :
  Calls Tryz.prog 105 #[.pointer (some ⟨p,0,none⟩)] w (Qd5 w (.int .u64 (o.stamp:Int))):=by
 obtain ⟨c0,c1,c2,c3,c4,c5⟩:=h.cs
 have hown:=h.kn
 unfold JY at hown
 obtain ⟨fi,hfi⟩:∃ b,o.final=b:=⟨_,rfl⟩
 rw [hfi] at c5
 cases fi
 ·have HE:Hid (o.stamp=o.own):=by show _=_;rw [Qz.stamp,hfi];rfl
  clear hfi hown
  go_enter Tryz.func105,Tryz.ntmps105
  go_wp2
  go_ret
  exact ⟨Qk9 HE.out,YN.refl _⟩
 ·have HE:Hid (o.stamp=JC o.known o.own):=by show _=_;rw [Qz.stamp,hfi];rfl
  have HN:=Lib.hid hn
  clear hfi hn
  go_enter Tryz.func105,Tryz.ntmps105
  go_wp2_with (at_range;refine QeZ rfl _ rfl QbY Tryz.underlying198 rfl hown ?_;intro w0 hrg0 hg0 hs0 hd0)
  go_frame
  go_loopw [3,5] (fun s _ wr=>∃ (left:Lit->Bool) (cnt sv:Nat),s = .int .u64 (sv:Int)/\wr.ranges Tryz.prog 3 (plainElem (H:=Unit) Tryz.prog 39) mb w.heap.size o.known.length (Xm o.known) left cnt/\Hid (VP o.known o.own left sv)/\YN w wr) (fun _ _ wr=>wr.rangeLeft mb w.heap.size)
  case atStart=>exact ⟨_,_,o.own,rfl,hrg0,Lib.hid (VP.start o.known o.own),(Below.refl _ w).grown hg0 (Nat.le_refl _) (fun k e=>by cases e),hd0⟩
  case round =>
   obtain ⟨left,cnt,sv,rfl,hrg,hgone,hw⟩:=hrel
   go_wp2_with (at_next;refine Qgp rfl _ rfl .i64 .u64 QbY Tryz.underlying3 Tryz.underlying39 rfl hrg ?_ ?_)
   ·intro _ hl0
    have HS:Hid (sv=JC o.known o.own):=hgone.out.end hl0
    clear hl0
    go_wp2
    go_ret
    exact ⟨Qk9 (by rw [HE.out,HS.out]),hw⟩
   ·intro x c w1 cnt1 hwx hwc hlk hat hrg1 hlt hg1 hs1 hd1 hen
    obtain ⟨cn,rfl⟩:=wf_u64 hwc
    have HT:=Lib.hid (VP.step HN.out hgone.out hat)
    have hw1:YN w w1:=⟨hw.1.grown hg1 hw.1.size (fun k e=>by cases e;exact Nat.le_refl _),Nat.le_trans hw.2 hd1⟩
    have hmx:=QmG sv cn
    have HL:=Lib.hid (show w1.rangeLeft mb w.heap.size<wr.rangeLeft mb w.heap.size by rw [hrg1.left_eq,hrg.left_eq];exact hlt)
    clear hat hwc hwx hlk hlt hg1 hs1 hd1
    go_wp2
    go_roundw
    case rel=>exact ⟨_,_,max sv cn,rfl,hrg1,HT,hw1⟩
    case measure=>exact HL.out
theorem QnR (a b:Qz):QbJ a b=if US a.stamp b.stamp ≠ 0 then US a.stamp b.stamp else if YG a.id b.id then -1 else 1:=by
 unfold QbJ US
 by_cases h1:a.stamp<b.stamp
 ·simp [h1]
 ·by_cases h2:b.stamp<a.stamp
  ·simp [h1,h2]
  ·simp [h1,h2]
set_option maxRecDepth 100000 in
set_option maxHeartbeats 4000000 in
theorem QmH {w:World} {B p mb p' mb':Nat} {gv gv':Value} {o o':Qz} (h:Z4 w B p mb gv o) (h':Z4 w B p' mb' gv' o') (hn:(o.known.map (·.1)).Nodup) (hn':(o'.known.map (·.1)).Nodup) :
  Calls Tryz.prog 187 #[.pointer (some ⟨p,0,none⟩),.pointer (some ⟨p',0,none⟩)] w (Qd5 w (.int .i64 (QbJ o o'))):=by
 have HC:=Lib.hid (QnR o o')
 have H:=Lib.hid h
 have H':=Lib.hid h'
 obtain ⟨c0,c1,_⟩:=h.cs
 obtain ⟨d0,d1,_⟩:=h'.cs
 obtain ⟨cv,hcv⟩:∃ cv,Hid (US o.stamp o'.stamp=cv):=⟨_,rfl⟩
 have HCm:Hid (∀ wz,Calls Tryz.prog 188 #[.int .u64 (o.stamp:Int),.int .u64 (o'.stamp:Int)] wz fun e w'=>e = .returned (.int .i64 cv)/\wz=w'):=fun wz=>by
  have:=Qo5 o.stamp o'.stamp wz
  rw [hcv.out] at this
  exact this
 rw [hcv.out] at HC
 clear h h'
 by_cases hz:cv=0
 ·subst hz
  obtain ⟨lb,hlb⟩:∃ lb,Hid (YG o.id o'.id=lb):=⟨_,rfl⟩
  have HLe:Hid (∀ wz,Calls Tryz.prog 189 #[.agg #[.int .i64 o.id.ses,.int .i64 o.id.seq],.agg #[.int .i64 o'.id.ses,.int .i64 o'.id.seq]] wz (Qd5 wz (.bool lb))):=fun wz=>by
   have:=Qow o.id.ses o.id.seq o'.id.ses o'.id.seq wz
   rw [hlb.out] at this
   exact this
  have HV:Hid (QbJ o o'=if lb then -1 else 1):=by show _=_;rw [HC.out,hlb.out];simp
  clear HC
  go_enter Tryz.func187,Tryz.ntmps187
  go_wp2_with (first
   | (go_at_call 105;(first | ((with_reducible refine (UC (H'.out.later hw1.1) hn').mono ?_);rintro e w2 ⟨rfl,hb⟩;have hw2:=YN.trans hw1 hb;clear hb) | ((with_reducible refine (UC H.out hn).mono ?_);rintro e w1 ⟨rfl,hw1⟩)))
   | (go_at_call 188;(with_reducible refine (HCm.out _).mono ?_);rintro e w3 ⟨rfl,rfl⟩))
  replace c0:=keep hw2.1 c0
  replace c1:=keep hw2.1 c1
  replace d0:=keep hw2.1 d0
  replace d1:=keep hw2.1 d1
  go_region_held3 (fun w'=>w'.cell? ⟨p,0,none⟩=some (.int .i64 o.id.ses)/\w'.cell? ⟨p,1,none⟩=some (.int .i64 o.id.seq)/\w'.cell? ⟨p',0,none⟩=some (.int .i64 o'.id.ses)/\w'.cell? ⟨p',1,none⟩=some (.int .i64 o'.id.seq)/\YN w w')
   (first | exact ⟨c0,c1,d0,d1,YN.drew hw2⟩ | (with_reducible exact ⟨keep hb4.1 c0,keep hb4.1 c1,keep hb4.1 d0,keep hb4.1 d1,hw4⟩))
   ((go_at_call 189;(with_reducible refine (HLe.out _).mono ?_);rintro e w4 ⟨rfl,hb⟩;have hb4:YN w2 w4:=YN.trans (YN.drew (YN.refl w2)) hb;have hw4:YN w w4:=YN.trans hw2 hb4))
  cases lb
  ·go_wp2
   go_ret
   exact ⟨Yo HV.out,hw4⟩
  ·go_wp2
   go_ret
   exact ⟨Yo HV.out,hw4⟩
 ·have HV:Hid (QbJ o o'=cv):=by show _=_;rw [HC.out,if_pos hz]
  have qz:(cv != 0)=true:=by rw [bne_iff_ne];exact hz
  clear HC hz
  go_enter Tryz.func187,Tryz.ntmps187
  go_wp2_with (first
   | (go_at_call 105;(first | ((with_reducible refine (UC (H'.out.later hw1.1) hn').mono ?_);rintro e w2 ⟨rfl,hb⟩;have hw2:=YN.trans hw1 hb;clear hb) | ((with_reducible refine (UC H.out hn).mono ?_);rintro e w1 ⟨rfl,hw1⟩)))
   | (go_at_call 188;(with_reducible refine (HCm.out _).mono ?_);rintro e w3 ⟨rfl,rfl⟩))
  go_ret
  exact ⟨Yo HV.out,hw2⟩
open Go.Sort Go.Lib
abbrev InL (es:List QK):={ e:QK // e ∈ es }
def UT {es:List QK} (a:InL es):Value:=a.1.ptr
def Qha {es:List QK} (a b:InL es):Int:=QbJ a.1.o b.1.o
theorem ltE {es:List QK} (a b:InL es):ltOf Qha a b=X2 a.1.o b.1.o:=by
 unfold ltOf Qha
 exact QnG _ _
theorem Qpj (es:List QK):SWO (ltOf (Qha (es:=es))) where
 irrefl x:=by rw [ltE];exact QiF _
 trans x y z h1 h2:=by rw [ltE] at *;exact QbK h1 h2
 ntrans x y z h1 h2:=by
  rw [ltE] at *
  have:=QbL z.1.o y.1.o x.1.o (by rw [XK,h2];rfl) (by rw [XK,h1];rfl)
  simpa [XK] using this
theorem QmI {α:Type} [Inhabited α] (enc:α->Value) {w:World} {g off n:Nat} {os:Array Obj} {cur:Array Value} {e:TypeId} {fr:Nat × Nat} (d:Array α) (hb:w.heap[g]? = some (.cells cur e fr)) :
  (grow (putRow enc (Sort.ahead w n) g off d) os).heap[g]? = some (.cells (putCells enc off d cur) e fr):=by
 have hg:g<w.heap.size:=(Array.getElem?_eq_some_iff.1 hb).1
 rw [heap_grow_old _ _ (by simpa using hg)]
 simp [putRow,mapBlock,Sort.ahead,Array.getElem?_modify,hb,onCells]
theorem QcV {α:Type} [Inhabited α] (enc:α->Value) {w:World} {g off n:Nat} {os:Array Obj} (d:Array α):w.grownBy (grow (putRow enc (Sort.ahead w n) g off d) os) (some g):=by
 refine ⟨rfl,rfl,rfl,by simp,fun k hk hne=>?_⟩
 rw [heap_grow_old _ _ (by simpa using hk)]
 have:g ≠ k:=fun e=>hne (by rw [e])
 simp [putRow,mapBlock,Sort.ahead,Array.getElem?_modify,this]
theorem QmJ {α:Type} [Inhabited α] (enc:α->Value) (cur:Array Value) (off:Nat) (F:Array α) (h:off+F.size<=cur.size):((putCells enc off F cur).toList.drop off).take F.size=F.toList.map enc:=by
 apply List.ext_getElem?
 intro j
 by_cases hj:j<F.size
 ·rw [List.getElem?_take_of_lt hj,List.getElem?_drop,Array.getElem?_toList]
  simp [putCells,hj,show off+j<cur.size by omega]
 ·rw [List.getElem?_take_eq_none (by omega),List.getElem?_eq_none (by simp;omega)]
theorem Qlb {α:Type} [Inhabited α] (enc:α->Value) {w:World} {g off:Nat} {cur:Array Value} {e:TypeId} {F:Array α} (hb:w.heap[g]? = some (.cells cur e (0,0))) (ht:(cur.toList.drop off).take F.size=F.toList.map enc):Holds enc w g off F:=by
 intro j hj
 refine ⟨?_,by simp [World.frozen?,hb]⟩
 have h1:((cur.toList.drop off).take F.size)[j]? = (F.toList.map enc)[j]?:=by rw [ht]
 rw [List.getElem?_take_of_lt hj,List.getElem?_drop] at h1
 simp only [World.cell?,hb]
 simp only [Option.isSome_none,Bool.false_eq_true,if_false]
 rw [<- Array.getElem?_toList,h1]
 simp [hj]
def QjD (w:World) (B:Nat) (v:Value) (es:List QK) (e:Ending) (w':World):Prop :=
 e = .returned (.tuple #[])/\∃ es':List QK,es'.Perm es/\(es'.map QK.o).Pairwise (fun a b=>XK a b=true)/\QC w' B 191 v (es'.map QK.ptr)/\w.grownBy w' v.ownBlock
theorem Qox {w:World} {B p:Nat} {x:QD} {v:Value} {es:List QK} {O:Nat->Prop} (h:ZE w B p x v es O) (hn:∀ o ∈ x.l,(o.known.map (·.1)).Nodup) (h0:0<es.length) (hsz:es.length<1000000) :
  Calls Tryz.prog 186 #[v,.func (.func 187) #[] #[]] w (QjD w B v es):=by
 have hnn:∀ e ∈ es,(e.o.known.map (·.1)).Nodup:=fun e he=>hn _ (by rw [<- h.eq];exact List.mem_map.2 ⟨e,he,rfl⟩)
 rcases h.row with ⟨_,e⟩ | ⟨g,off,cap,cur,rfl,hg,hb,hlc,hm,hc,ht⟩
 ·have:=congrArg List.length e;rw [List.length_map,List.length_nil] at this;omega
 ·have hInh:Inhabited (InL es):=⟨⟨es.getD 0 default,Kd h0⟩⟩
  have hds:(es.attach.toArray).size=es.length:=by simp
  have hdm:es.attach.toArray.toList.map (UT (es:=es))=es.map QK.ptr:=by
   simp only [List.toList_toArray]
   conv=>rhs;rw [<- List.attach_map_subtype_val es]
   rw [List.map_map]
   rfl
  rw [List.length_map] at hlc ht ⊢
  have hF:(cur.toList.drop off).take (es.attach.toArray).size=(es.attach.toArray).toList.map (UT (es:=es)):=by rw [hds,hdm];exact ht
  have eg:∀ args w,(callFunc 187 args).run Tryz.prog w = .ok (.enter 187 args) w:=enters_of Tryz.func187 (by kernel_rfl) rfl
  have hO:∀ (m:Nat) (os:Array Obj) (dk:Array (InL es)),Qg (fun k=>k=g) w (sortWorld UT w g off m dk os):=fun m os dk=>Qg.of_grown (QcV UT dk) (fun k e=>by cases e;rfl)
  have hcmp:CmpLays1 Tryz.prog 187 #[] (UT (es:=es)) Qha g off (es.attach.toArray).size w:=fun m os dk _ a b=>by
   have ha:=(h.one a.1 a.2).out (hO m os dk) (fun e=>UQ (h.one a.1 a.2).blk hb (VD (by decide)) e) (fun e=>Jt (h.one a.1 a.2).kn hb e) (fun g' hg' e=>UR (h.one a.1 a.2).gr hb (by decide) hg' e)
   have hb':=(h.one b.1 b.2).out (hO m os dk) (fun e=>UQ (h.one b.1 b.2).blk hb (VD (by decide)) e) (fun e=>Jt (h.one b.1 b.2).kn hb e) (fun g' hg' e=>UR (h.one b.1 b.2).gr hb (by decide) hg' e)
   exact (QmH ha hb' (hnn _ a.2) (hnn _ b.2)).mono fun e w' ⟨he,hgw⟩=>⟨he,hgw.form⟩
  have hcon:=Any.slices_SortFunc Tryz.sortO (UT (es:=es)) (fun _=>rfl) Qha (Qpj es) 187 #[] g off cap es.attach.toArray w eg hcmp (Qlb UT hb hF) (Array.getElem?_eq_some_iff.1 hb).1 (by rw [hds];omega)
  rw [hds] at hcon
  change Calls Tryz.prog 186 _ _ _ at hcon
  refine Calls.mono hcon ?_
  rintro e w' ⟨he,d',n,os,hp,hs,hw⟩
  have hz:d'.size=es.length:=by rw [hp.1,hds]
  have hpm:d'.toList.Perm es.attach:=by
   have h3:=hp.2.2
   have e1:d'.toList.take es.length=d'.toList:=List.take_of_length_le (by simp [hz])
   have e2:es.attach.take es.length=es.attach:=List.take_of_length_le (by simp)
   simpa [e1,e2] using h3
  have hlen:(d'.toList.map (·.1)).length=es.length:=by simp [hz]
  have hmp:(d'.toList.map (·.1)).map QK.ptr=d'.toList.map (UT (es:=es)):=by rw [List.map_map];rfl
  refine ⟨he,d'.toList.map (·.1),?_,?_,?_,?_⟩
  ·have:=hpm.map (Subtype.val)
   rw [List.attach_map_subtype_val] at this
   exact this
  ·rw [List.map_map,List.pairwise_map,List.pairwise_iff_getElem]
   intro i j hi hj hij
   have h3:=hs i j (Nat.zero_le _) hij (by simp at hj;omega)
   rw [ltE,getElem!_pos d' j (by simpa using hj),getElem!_pos d' i (by simpa using hi)] at h3
   show (!X2 (d'.toList[j]).1.o (d'.toList[i]).1.o)=true
   simp only [Array.getElem_toList]
   rw [h3];rfl
  ·have hl2:((d'.toList.map (·.1)).map QK.ptr).length=es.length:=by rw [List.length_map,hlen]
   rw [hw]
   refine .inr ⟨g,off,cap,_,by rw [hl2],hg,QmI UT _ hb,by rw [hl2];exact hlc,hm,by simp [putCells];omega,?_⟩
   have h4:=QmJ (UT (es:=es)) cur off d' (by rw [hz];omega)
   rw [hl2,hmp, <- hz]
   exact h4
  ·rw [hw];exact QcV UT _
theorem Z4.past_row {w w':World} {B p mb:Nat} {gv v:Value} {xs:List Value} {o:Qz} (h1:Z4 w B p mb gv o) (hr:QC w B 191 v xs) (ho:Qg (fun k=>v.ownBlock=some k) w w'):Z4 w' B p mb gv o:=by
 refine h1.out ho (fun e2=>hr.ne h1.blk (by decide) e2 rfl) (fun e2=>?_) (fun g hg' e2=>?_)
 ·rcases hr with ⟨rfl,_⟩ | ⟨g',off,cap,cur,rfl,_,hh,_⟩
  ·cases e2
  ·injection e2 with e2
   exact Jt h1.kn hh e2.symm
 ·rcases hr with ⟨rfl,_⟩ | ⟨g',off,cap,cur,rfl,_,hh,_⟩
  ·cases e2
  ·injection e2 with e2
   subst e2
   exact UR h1.gr hh (by decide) hg' rfl
theorem ZE.sorted {w w' : World} {B p : Nat} {x : QD} {v : Value} {es es' : List QK} {O : Nat -> Prop} (h : ZE w B p x v es O) (hid : (x.l.map Qz.id).Nodup) (hp : es'.Perm es)
    (hs : (es'.map QK.o).Pairwise (fun a b => XK a b = true)) (hr : QC w' B 191 v (es'.map QK.ptr)) (hg : w.grownBy w' v.ownBlock) :
    ZE w' B p ⟨x.g, x.clock, Je x.l⟩ v es' O := by
  have ho : Qg (fun k => v.ownBlock = some k) w w' := Qg.of_grown hg (fun k e => e)
  have hm : ∀ e ∈ es', e ∈ es := fun e he => hp.mem_iff.1 he
  exact { blk := ho.obj h.blk (fun e => h.row.ne h.blk (by decide) e rfl), row := hr, eq := by
            have h1 : (es'.map QK.o).Perm x.l := by rw [<- h.eq]; exact hp.map _
            refine QkD (h1.trans (Zz _).symm) hs (K6 _) ?_
            exact ((h1.map Qz.id).nodup_iff).2 hid
          one := fun e he => (h.one e (hm e he)).past_row h.row ho
          np := ((hp.map QK.p).nodup_iff).2 h.np, nm := ((hp.map QK.mb).nodup_iff).2 h.nm, hp := h.hp, mv := h.mv, me := fun e he => h.me e (hm e he), lt := fun k hk => ⟨(h.lt k hk).1, Nat.lt_of_lt_of_le (h.lt k hk).2 ho.size⟩ }
def Qlc (w:World) (B p:Nat) (x:QD) (v:Value) (O:Nat->Prop) (e:Ending) (w':World):Prop :=
 e = .returned (.tuple #[])/\Qg O w w'/\∃ es',ZE w' B p ⟨x.g,x.clock,Je x.l⟩ v es' O
theorem Qe1 {w:World} {B p:Nat} {x:QD} {v:Value} {es:List QK} {O:Nat->Prop} (h:ZE w B p x v es O) (hn:∀ o ∈ x.l,(o.known.map (·.1)).Nodup) (hid:(x.l.map Qz.id).Nodup) (h0:0<es.length) (hsz:es.length<1000000) :
  Calls Tryz.prog 146 #[.pointer (some ⟨p,0,none⟩)] w (Qlc w B p x v O):=by
 obtain ⟨c0,c1,c2⟩:=h.cs
 have HS:=Lib.hid (Qox h hn h0 hsz)
 have H:=Lib.hid h
 have HI:=Lib.hid hid
 clear h hn h0 hsz hid
 go_enter Tryz.func146,Tryz.ntmps146
 go_wp2_with (go_at_call 186;(with_reducible refine HS.out.mono ?_);rintro e w1 ⟨rfl,es',hp,hs,hr,hg⟩)
 go_end0
 exact ⟨rfl,Qg.of_grown hg (fun k e=>H.out.mv k e),es',H.out.sorted HI.out hp hs hr hg⟩
attribute [local go_sem] Oper.semAt_some
def upto {α:Type} (f:Nat->α) (k:Nat):List α:=(List.range k).map f
theorem QfD {α:Type} (f:Nat->α) (k:Nat):upto f (k+1)=upto f k ++ [f k]:=by simp [upto,List.range_succ]
theorem Qid {α:Type} (f:Nat->α) (k:Nat):(upto f k).length=k:=by simp [upto]
theorem QmK (zs:List Int):upto (fun j=>zs[j]?.getD 0) zs.length=zs:=by
 apply List.ext_getElem
 ·simp [upto]
 ·intro i h1 h2
  simp [upto,h2]
theorem Qld (zs:List Int) {k:Nat} (hk:k<=zs.length):upto (fun j=>zs[j]?.getD 0) k=zs.take k:=by
 apply List.ext_getElem
 ·simp [upto,hk]
 ·intro i h1 h2
  have:i<zs.length:=by simp [upto] at h1;omega
  simp [upto,this]
def Ju (n₀:Nat) (W:World) (sv:Value) (zs:List Int):Prop :=
 (∃ A cap,sv = .slice A 0 cap/\zs=[]) \/ ∃ b off cap,sv = .slice (some ⟨b,off,none⟩) zs.length cap/\b<n₀/\∀ j,j<zs.length->W.cell? ⟨b,off+j,none⟩=some (.int .i64 (zs[j]?.getD 0))
theorem Ju.below {n₀:Nat} {A B:World} (h:Below n₀ A B) {sv:Value} {zs:List Int}:Ju n₀ A sv zs->Ju n₀ B sv zs
 | .inl e=>.inl e
 | .inr ⟨b,off,cap,e,hb,hc⟩=>.inr ⟨b,off,cap,e,hb,fun j hj=>(h.cell (p:=⟨b,off+j,none⟩) hb).trans (hc j hj)⟩
theorem Ju.of {w:World} {A:Option Addr} {l:List Int} {cap:Nat} (h:QV w A l):Ju w.heap.size w (.slice A l.length cap) l:=by
 by_cases h0:l=[]
 ·subst h0;exact .inl ⟨A,cap,rfl,rfl⟩
 ·have hp:0<l.length:=List.length_pos_iff.2 h0
  obtain ⟨b,off,rfl,hc⟩:=h 0 hp
  refine .inr ⟨b,off,cap,rfl,?_,fun j hj=>?_⟩
  ·rcases Nat.lt_or_ge b w.heap.size with q | q
   ·exact q
   ·exfalso
    have:w.heap[b]? = none:=Array.getElem?_eq_none q
    simp [World.cell?,this] at hc
  ·obtain ⟨b',off',e,hc'⟩:=h j hj
   cases e
   rw [hc']
   simp [List.getD_eq_getElem?_getD]
set_option maxRecDepth 100000 in
set_option maxHeartbeats 2000000 in
theorem QjE (F:Fence) (n:Nat) (h7:F.fn 191) (hro:F.round=none) (hn:1<=n) (l Bs n₀ b off len cap:Nat) (zs:List Int) (hreach:len * 8<=140737488351232) (hb:b<n₀) (J Jx:List Int->World->Prop)
  (hY:∀ pre x W,J pre W->pre.length<len->YieldAt F (n-1) Tryz.prog l #[.int .i64 x] W fun e W' =>
   (e = .returned (.bool true)/\J (pre ++ [x]) W'/\Below n₀ W W') \/ (e = .returned (.bool false)/\Jx (pre ++ [x]) W'))
  (W:World) (hBs:W.cell? ⟨Bs,0,none⟩=some (.slice (some ⟨b,off,none⟩) len cap)) (hc:∀ j,j<len->W.cell? ⟨b,off+j,none⟩=some (.int .i64 (zs[j]?.getD 0))) (h0:J [] W) :
  CallsIn F n Tryz.prog 191 #[.func (.yield l) #[] #[],.pointer (some ⟨Bs,0,none⟩)] W fun e W'=>(∃ v,e = .returned v) /\
   ((∃ ys,ys=upto (fun j=>zs[j]?.getD 0) len/\J ys W') \/ (∃ pre,(∃ k,k<=len/\pre=upto (fun j=>zs[j]?.getD 0) k)/\Jx pre W')):=by
 refine callsIn_of_wp Tryz.func191 rfl h7 ?_ hro
 simp only [Tryz.ntmps191,List.size_toArray,List.length_cons,List.length_nil,Nat.reduceAdd,Nat.reduceSub,Array.replicate_succ,Array.replicate_zero,List.push_toArray,List.append_toArray,List.nil_append,List.cons_append]
 gi_wp2
 gi_loopw [7] (fun i wr=>∃ k:Nat,k<=len/\i = .int .i64 k/\J (upto (fun j=>zs[j]?.getD 0) k) wr/\Below n₀ W wr)
  (fun i _=>len-(intOf i).toNat)
 case atStart=>exact ⟨0,Nat.zero_le _,rfl,h0,Below.refl _ _⟩
 case round =>
  obtain ⟨k,hk,rfl,hJs,hnx⟩:=hrel
  have hcx:k<len->wr.cell? ⟨b,off+k,none⟩=some (.int .i64 (zs[k]?.getD 0)):=fun h=>(hnx.cell (p:=⟨b,off+k,none⟩) hb).trans (hc k h)
  by_cases hlt:k<len
  ·obtain ⟨fn,tmps,assign,body,hy,hR⟩:=hY _ (zs[k]?.getD 0) wr hJs (by rw [Qid];exact hlt)
   have hcx':=hcx hlt
   gi_wp2
   refine hR.mono ?_
   rintro e W3 (⟨rfl,hJ3,hk3⟩ | ⟨rfl,hJx3⟩)
   ·gi_wp2
    go_roundw
    case rel=>exact ⟨k+1,by omega,by simp,by rw [QfD];exact hJ3,hnx.trans hk3⟩
    case measure=>simp [intOf];omega
   ·gi_wp2
    refine bodyPost_ret (results_none rfl _ _ _) rfl ?_
    exact ⟨⟨_,rfl⟩,.inr ⟨_,⟨k+1,by omega,(QfD _ _).symm⟩,hJx3⟩⟩
  ·obtain rfl:k=len:=by omega
   gi_wp2
   go_end0
   exact ⟨⟨_,rfl⟩,.inl ⟨_,rfl,hJs⟩⟩
set_option maxRecDepth 100000 in
set_option maxHeartbeats 1000000 in
theorem Qe2 (F:Fence) (n:Nat) (h7:F.fn 191) (hro:F.round=none) (l Bs:Nat) (A:Option Addr) (cap:Nat) (J:List Int->World->Prop) (W:World) (hBs:W.cell? ⟨Bs,0,none⟩=some (.slice A 0 cap)) (h0:J [] W) :
  CallsIn F n Tryz.prog 191 #[.func (.yield l) #[] #[],.pointer (some ⟨Bs,0,none⟩)] W fun e W'=>(∃ v,e = .returned v)/\J [] W':=by
 refine callsIn_of_wp Tryz.func191 rfl h7 ?_ hro
 simp only [Tryz.ntmps191,List.size_toArray,List.length_cons,List.length_nil,Nat.reduceAdd,Nat.reduceSub,Array.replicate_succ,Array.replicate_zero,List.push_toArray,List.append_toArray,List.nil_append,List.cons_append]
 gi_wp2
 gi_loopw [7] (fun i wr=>i = .int .i64 0/\J [] wr) (fun _ _=>0)
 case atStart=>exact ⟨rfl,h0⟩
 case round =>
  obtain ⟨rfl,hJs⟩:=hrel
  gi_wp2
  go_end0
  exact ⟨⟨_,rfl⟩,hJs⟩
theorem Qhb (F:Fence) (n:Nat) (h7:F.fn 191) (hro:F.round=none) (hn:1<=n) (Bs n₀:Nat) (sv:Value) (zs:List Int) (hreach:zs.length * 8<=140737488351232) (w:World) (hBs:Bs<w.heap.size) (hn₀:n₀<=w.heap.size)
  (hc:w.cell? ⟨Bs,0,none⟩=some sv) (hI:Ju n₀ w sv zs) :
  SeqStopsK F n Tryz.prog 191 #[.pointer (some ⟨Bs,0,none⟩)] (fun x:Int=>#[Value.int .i64 x]) (Below n₀) (fun ys=>ys=zs) (fun pre=>pre <+: zs) zs.length w:=fun l J Jx W hW _ _ hY h0=>by
 have hc':=(hW.cell (p:=⟨Bs,0,none⟩) hBs).trans hc
 rcases hI.below (hW.mono hn₀) with ⟨A,cap,rfl,rfl⟩ | ⟨b,off,cap,rfl,hb,hcs⟩
 ·exact (Qe2 F n h7 hro l Bs A cap J W hc' h0).mono fun e W' ⟨he,hj⟩=>⟨he,.inl ⟨_,rfl,hj⟩⟩
 ·refine (QjE F n h7 hro hn l Bs n₀ b off zs.length cap zs hreach hb J Jx hY W hc' hcs h0).mono ?_
  rintro e W' ⟨he,⟨ys,rfl,hj⟩ | ⟨pre,⟨k,hk,rfl⟩,hj⟩⟩
  ·exact ⟨he,.inl ⟨_,QmK zs,hj⟩⟩
  ·exact ⟨he,.inr ⟨_,by rw [Qld zs hk];exact List.take_prefix _ _,hj⟩⟩
end Go.Proofs.YtcldpmkhpmlcbaaGreatDoor
