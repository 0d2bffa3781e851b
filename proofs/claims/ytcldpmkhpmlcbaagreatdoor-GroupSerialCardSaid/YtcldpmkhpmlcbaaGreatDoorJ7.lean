/- part -/
import Derived.Test.YtcldpmkhpmlcbaaGreatDoorRefAp14
import Derived.Test.YtcldpmkhpmlcbaaGreatDoorJ1
import Derived.Test.YtcldpmkhpmlcbaaGreatDoorJ2
import Derived.Test.YtcldpmkhpmlcbaaGreatDoorJ4
import Derived.Sort.KeysCollected
set_option linter.unusedVariables false
set_option linter.unusedSimpArgs false
namespace Go.Proofs.YtcldpmkhpmlcbaaGreatDoor
open Go.RowKit Go.Maps Go.Shelf Go.Sort
def Vb (s:QR) (x:Rd):Bool:=decide ((Z3 (getK s.ks x.key) s.last).num=x.ver)
def Yj (s:QR) (l:List Rd):Bool:=l.all (Vb s)
theorem Qot (w:World) (u:Value) (t:TypeId):∃ W:World,w.alloc (.cells #[u] t)=W/\Below w.heap.size w W/\W.cell? ⟨w.heap.size,0,none⟩=some u :=
 ⟨_,rfl,Qc _ _,by simp⟩
theorem Qcx {W:World} {a:Addr} {v:Value} (h:W.cell? a=some v):W.drew.cell? a=some v:=h
theorem VN {W:World} {b c i j:Nat} {v u:Value} (h:W.cell? ⟨b,i,none⟩=some v) (hne:¬ (b=c)):(W.setCell ⟨c,j,none⟩ u).cell? ⟨b,i,none⟩=some v:=by
 rw [World.cell?_of_block (Below.heap_setCell _ _ _ _ hne)];exact h
def Xf (w:World) (g:Nat) (a b c:Value):Prop:=∃ t,w.heap[g]? = some (.cells #[a,b,c] t (0,0))
theorem Xf.newd {W w1:World} {a b c:Value} {t:TypeId} (hb:Below (W.alloc (.cells #[a,b,c] t)).drew.heap.size (W.alloc (.cells #[a,b,c] t)).drew w1):Xf w1 W.heap.size a b c :=
 ⟨t,YB (w:=(W.alloc (.cells #[a,b,c] t)).drew) (heap_alloc_new W _) hb⟩
theorem Xf.later {w w':World} {g:Nat} {a b c:Value} (h:Xf w g a b c) (hb:Below w.heap.size w w'):Xf w' g a b c:=by
 obtain ⟨t,h⟩:=h
 exact ⟨t,YB h hb⟩
theorem Xf.facts {w:World} {g:Nat} {a b c:Value} (h:Xf w g a b c):w.cell? ⟨g,0,none⟩=some a/\w.cell? ⟨g,1,none⟩=some b/\w.cell? ⟨g,2,none⟩=some c/\w.frozen? ⟨g,0,none⟩=false/\w.frozen? ⟨g,1,none⟩=false/\w.frozen? ⟨g,2,none⟩=false:=by
 obtain ⟨t,h⟩:=h
 exact K9 h
theorem Qfx {P:Program} {f:FuncId} {args:Array Value} {w:World} {z x:Bool} (e:z=x) (h:Calls P f args w fun e w'=>e = .returned (.bool z)/\Below w.heap.size w w'):Calls P f args w fun e w'=>e = .returned (.bool x)/\Below w.heap.size w w':=by
 rw [e] at h;exact h
set_option maxHeartbeats 1000000 in
theorem Yk (c:Ql) (A B:Option Addr) (ca cb:Nat) (w:World) (h:Z9 w c A B) :
  Calls Tryz.prog 37 #[.agg #[.slice A c.reps.length ca,.slice B c.bnds.length cb]] w fun e w'=>e = .returned (.bool (Qn c))/\Below w.heap.size w w':=by
 cases hz:XI c
 ·rw [UF hz]
  have hn:=h.hn
  have hm:=h.hm
  by_cases z1:1<=c.reps.length
  ·by_cases z2:c.reps.length<=4
   ·have z3:c.bnds.length+1 ≠ c.reps.length:=by
     intro e
     simp [XI,z1,z2,e] at hz
    have z3':((c.bnds.length:Int) != (c.reps.length:Int)-1)=true:=by rw [bne_iff_ne];omega
    clear hz z3
    obtain ⟨W,eW,HB,c0,c1⟩:=Y5 w (.slice A c.reps.length ca) (.slice B c.bnds.length cb) 25
    go_enter Tryz.func37,Tryz.ntmps37
    go_wp2
    go_ret
    exact ⟨rfl,HB⟩
   ·clear hz
    obtain ⟨W,eW,HB,c0,c1⟩:=Y5 w (.slice A c.reps.length ca) (.slice B c.bnds.length cb) 25
    go_enter Tryz.func37,Tryz.ntmps37
    go_wp2
    go_ret
    exact ⟨rfl,HB⟩
  ·clear hz
   obtain ⟨W,eW,HB,c0,c1⟩:=Y5 w (.slice A c.reps.length ca) (.slice B c.bnds.length cb) 25
   go_enter Tryz.func37,Tryz.ntmps37
   go_wp2
   go_ret
   exact ⟨rfl,HB⟩
 ·have h1:1<=c.reps.length/\c.reps.length<=4/\c.bnds.length+1=c.reps.length:=by simpa [XI,and_assoc] using hz
  obtain ⟨z1,z2,z3⟩:=h1
  have z3':((c.bnds.length:Int) != (c.reps.length:Int)-1)=false:=by rw [bne_eq_false_iff_eq];omega
  have zm:c.bnds.length<=3:=by omega
  have HZ:=Lib.hid hz
  clear z3 hz
  obtain ⟨W,eW,HB,c0,c1⟩:=Y5 w (.slice A c.reps.length ca) (.slice B c.bnds.length cb) 25
  have h:=h.later HB
  go_enter Tryz.func37,Tryz.ntmps37
  go_wp2_with fail
  clear eW z3'
  go_loop [30] (fun i=>∃ k:Nat,k<=c.reps.length/\i = .int .i64 k/\Hid (XH c.reps k=true)) (fun i=>c.reps.length-(intOf i).toNat)
  case atStart=>exact ⟨0,Nat.zero_le _,rfl,rfl⟩
  case round =>
   obtain ⟨k,hk,rfl,HA⟩:=hrel
   by_cases hlt:k<c.reps.length
   ·obtain ⟨b,off,x,rfl,hc,HX⟩:=QV.at' h.ints hlt
    cases hr:Qa2 x
    ·have HF:Hid (Qn c=false):=QdF hlt (by rw [HX.out];exact hr)
     have n1:(x != 1)=true:=by rw [bne_iff_ne];rintro rfl;exact absurd hr (by decide)
     have n3:(x != 3)=true:=by rw [bne_iff_ne];rintro rfl;exact absurd hr (by decide)
     have n5:(x != 5)=true:=by rw [bne_iff_ne];rintro rfl;exact absurd hr (by decide)
     clear hr
     go_wp2
     go_ret
     exact ⟨Qm HF.out,HB⟩
    ·have HR:Hid (XH c.reps (k+1)=true):=by show _=_;simp only [XH,HA.out,HX.out,hr,Bool.and_self]
     have hor:x=1 \/ x=3 \/ x=5:=by simpa [Qa2,or_assoc] using hr
     clear hr
     rcases hor with rfl | rfl | rfl
     all_goals
      go_wp2
      go_round
      case rel=>exact ⟨k+1,by omega,by go_num,HR⟩
      case measure=>simp [intOf];omega
   ·have ek:k=c.reps.length:=by omega
    have HR:Hid (XH c.reps c.reps.length=true):=by rw [<- ek];exact HA
    clear HA
    go_wp2
    go_loopw [48] (fun i wr=>∃ k:Nat,k<=c.bnds.length/\i = .int .i64 k/\Hid (QB c.bnds k=true)/\Below W.heap.size W wr) (fun i _=>c.bnds.length-(intOf i).toNat)
    case atStart=>exact ⟨0,Nat.zero_le _,rfl,rfl,Below.refl _ _⟩
    case round =>
     obtain ⟨k,hk,rfl,HA,hw⟩:=hrel
     have hB:=Qa HB hw
     have h:=h.later hw
     replace c0:=keep hw c0
     replace c1:=keep hw c1
     by_cases hlt:k<c.bnds.length
     ·obtain ⟨b,off,x,rfl,hc,HX⟩:=ZM.at' h.strs hlt
      have hsx:x.size<=maxLen:=by have:=h.hs k hlt;rw [HX.out] at this;exact this
      cases hkey:Yb x
      ·have HF:Hid (Qn c=false):=Uh hlt (by simp only [Yx,HX.out,hkey,Bool.false_and])
       go_wp2_with (go_at_call 79;refine (Xs _ _ hsx).mono ?_;rintro e w2 ⟨rfl,hb⟩;replace hB:=Qa hB hb)
       go_ret
       exact ⟨Qm HF.out,hB⟩
      ·by_cases hk0:k=0
       ·have HR:Hid (QB c.bnds (k+1)=true):=Jr HA.out HX.out hkey hk0
        have hg:decide (0<k)=false:=by rw [decide_eq_false_iff_not];omega
        clear hk0
        go_wp2_with (go_at_call 79;refine (Xs _ _ hsx).mono ?_;rintro e w2 ⟨rfl,hb⟩;replace hw:=hw.trans (hb.mono hw.size))
        go_roundw
        case rel=>exact ⟨k+1,by omega,by go_num,HR,hw⟩
        case measure=>simp [intOf];omega
       ·obtain ⟨b',off',y,e,hc',HY⟩:=ZM.at' h.strs (k:=k-1) (by omega)
        injection e with e
        injection e with e1 e2
        subst e1 e2
        have hg:decide (0<k)=true:=by rw [decide_eq_true_iff];omega
        have hi:((k:Int)-1).toNat=k-1:=by omega
        have hk1:1<=k:=by omega
        cases hl:Qy y x
        ·have HF:Hid (Qn c=false):=Uh hlt (by simp only [Yx,HX.out,HY.out,hkey,hl,beq_eq_false_iff_ne.2 hk0,Bool.false_or,Bool.and_false])
         have hl':Op.bytesLess y.toList x.toList=false:=hl
         clear hl hk0
         go_wp2_with (go_at_call 79;refine (Xs _ _ hsx).mono ?_;rintro e w2 ⟨rfl,hb⟩;replace hc':=keep hb hc';replace c1:=keep hb c1;replace hB:=Qa hB hb)
         go_ret
         exact ⟨Qm HF.out,hB⟩
        ·have HR:Hid (QB c.bnds (k+1)=true):=JP HA.out HX.out HY.out hkey hl
         have hl':Op.bytesLess y.toList x.toList=true:=hl
         clear hl hk0
         go_wp2_with (go_at_call 79;refine (Xs _ _ hsx).mono ?_;rintro e w2 ⟨rfl,hb⟩;replace hc':=keep hb hc';replace c1:=keep hb c1;replace hw:=hw.trans (hb.mono hw.size))
         go_roundw
         case rel=>exact ⟨k+1,by omega,by go_num,HR,hw⟩
         case measure=>simp [intOf];omega
     ·have ek:k=c.bnds.length:=by omega
      have HF:Hid (Qn c=true):=QdG HZ.out HR.out (by rw [<- ek];exact HA.out)
      go_wp2
      go_ret
      exact ⟨Qm HF.out,hB⟩
set_option maxHeartbeats 1000000 in
theorem Xg (c:Ql) (A B:Option Addr) (ca cb:Nat) (w:World) (h:Z9 w c A B) :
  Calls Tryz.prog 44 #[.agg #[.slice A c.reps.length ca,.slice B c.bnds.length cb]] w fun e w'=>e = .returned (.bool (Qn c))/\Below w.heap.size w w':=by
 obtain ⟨W,eW,HB,c0,c1⟩:=Y5 w (.slice A c.reps.length ca) (.slice B c.bnds.length cb) 25
 cases hz:XI c
 ·rw [UF hz]
  have hn:=h.hn
  have hm:=h.hm
  by_cases z1:1<=c.reps.length
  ·by_cases z2:c.reps.length<=4
   ·have z3:c.bnds.length+1 ≠ c.reps.length:=by
     intro e
     simp [XI,z1,z2,e] at hz
    have z3':((c.bnds.length:Int) != (c.reps.length:Int)-1)=true:=by rw [bne_iff_ne];omega
    clear hz z3
    go_enter Tryz.func44,Tryz.ntmps44
    go_wp2
    go_ret
    exact ⟨rfl,HB⟩
   ·clear hz
    go_enter Tryz.func44,Tryz.ntmps44
    go_wp2
    go_ret
    exact ⟨rfl,HB⟩
  ·clear hz
   go_enter Tryz.func44,Tryz.ntmps44
   go_wp2
   go_ret
   exact ⟨rfl,HB⟩
 ·have h1:1<=c.reps.length/\c.reps.length<=4/\c.bnds.length+1=c.reps.length:=by simpa [XI,and_assoc] using hz
  obtain ⟨z1,z2,z3⟩:=h1
  have z3':((c.bnds.length:Int) != (c.reps.length:Int)-1)=false:=by rw [bne_eq_false_iff_eq];omega
  have zm:c.bnds.length<=3:=by omega
  have HZ:=Lib.hid hz
  have HZ3:=Lib.hid z3
  clear z3 hz
  have h:=h.later HB
  go_enter Tryz.func44,Tryz.ntmps44
  go_wp2_with fail
  clear eW z3'
  go_loop [4] (fun i=>∃ k:Nat,k<=c.reps.length/\i = .int .i64 k/\Hid (XH c.reps k=true)) (fun i=>c.reps.length-(intOf i).toNat)
  case atStart=>exact ⟨0,Nat.zero_le _,rfl,rfl⟩
  case round =>
   obtain ⟨k,hk,rfl,HA⟩:=hrel
   by_cases hlt:k<c.reps.length
   ·obtain ⟨b,off,x,rfl,hc,HX⟩:=QV.at' h.ints hlt
    cases hr:Qa2 x
    ·have HF:Hid (Qn c=false):=QdF hlt (by rw [HX.out];exact hr)
     have n1:(x != 1)=true:=by rw [bne_iff_ne];rintro rfl;exact absurd hr (by decide)
     have n3:(x != 3)=true:=by rw [bne_iff_ne];rintro rfl;exact absurd hr (by decide)
     have n5:(x != 5)=true:=by rw [bne_iff_ne];rintro rfl;exact absurd hr (by decide)
     clear hr
     go_wp2
     go_ret
     exact ⟨Qm HF.out,HB⟩
    ·have HR:Hid (XH c.reps (k+1)=true):=by show _=_;simp only [XH,HA.out,HX.out,hr,Bool.and_self]
     have hor:x=1 \/ x=3 \/ x=5:=by simpa [Qa2,or_assoc] using hr
     clear hr
     rcases hor with rfl | rfl | rfl
     all_goals
      go_wp2
      go_round
      case rel=>exact ⟨k+1,by omega,by go_num,HR⟩
      case measure=>simp [intOf];omega
   ·have ek:k=c.reps.length:=by omega
    have HR:Hid (XH c.reps c.reps.length=true):=by rw [<- ek];exact HA
    clear HA
    go_wp2
    go_loopw [5] (fun i wr=>∃ k:Nat,k<=c.bnds.length/\i = .int .i64 k/\Hid (QB c.bnds k=true)/\Below W.heap.size W wr) (fun i _=>c.bnds.length-(intOf i).toNat)
    case atStart=>exact ⟨0,Nat.zero_le _,rfl,rfl,Below.refl _ _⟩
    case round =>
     obtain ⟨k,hk,rfl,HA,hw⟩:=hrel
     have hB:=Qa HB hw
     have h:=h.later hw
     replace c0:=keep hw c0
     replace c1:=keep hw c1
     have hk2:=HZ3.out
     by_cases hlt:k<c.bnds.length
     ·obtain ⟨b,off,x,rfl,hc,HX⟩:=ZM.at' h.strs hlt
      have hlt2:(k:Int)<(c.reps.length:Int)-1:=by omega
      clear hk2
      have hsx:x.size<=maxLen:=by have:=h.hs k hlt;rw [HX.out] at this;exact this
      have hki:(k:Int)<(c.bnds.length:Int):=by omega
      cases hkey:Yb x
      ·have HF:Hid (Qn c=false):=Uh hlt (by simp only [Yx,HX.out,hkey,Bool.false_and])
       go_wp2
       go_quiet ((go_at_call 56;exact YJ (YK _ _ hsx)))
       go_wp2
       go_ret
       exact ⟨Qm HF.out,Qj hB _⟩
      ·by_cases hk0:k=0
       ·have HR:Hid (QB c.bnds (k+1)=true):=Jr HA.out HX.out hkey hk0
        have hg:decide (0<k)=false:=by rw [decide_eq_false_iff_not];omega
        clear hk0
        go_wp2
        go_quiet ((go_at_call 56;exact YJ (YK _ _ hsx)))
        go_wp2
        go_roundw
        case rel=>exact ⟨k+1,by omega,by go_num,HR,Qj hw _⟩
        case measure=>simp [intOf];omega
       ·obtain ⟨b',off',y,e,hc',HY⟩:=ZM.at' h.strs (k:=k-1) (by omega)
        injection e with e
        injection e with e1 e2
        subst e1 e2
        have hg:decide (0<k)=true:=by rw [decide_eq_true_iff];omega
        have hi:((k:Int)-1).toNat=k-1:=by omega
        have hk1:1<=k:=by omega
        have hk1i:(1:Int)<=(k:Int):=by omega
        have hk2i:(k:Int)-1<(c.bnds.length:Int):=by omega
        cases hl:Qy y x
        ·have HF:Hid (Qn c=false):=Uh hlt (by simp only [Yx,HX.out,HY.out,hkey,hl,beq_eq_false_iff_ne.2 hk0,Bool.false_or,Bool.and_false])
         have hl':(Op.bytesLess x.toList y.toList || x.toList == y.toList)=true:=UE hl
         clear hl hk0
         go_wp2
         go_quiet ((go_at_call 56;exact YJ (YK _ _ hsx)))
         go_wp2
         go_ret
         exact ⟨Qm HF.out,Qj hB _⟩
        ·have HR:Hid (QB c.bnds (k+1)=true):=JP HA.out HX.out HY.out hkey hl
         have hl':(Op.bytesLess x.toList y.toList || x.toList == y.toList)=false:=VW hl
         clear hl hk0
         go_wp2
         go_quiet ((go_at_call 56;exact YJ (YK _ _ hsx)))
         go_wp2
         go_roundw
         case rel=>exact ⟨k+1,by omega,by go_num,HR,Qj hw _⟩
         case measure=>simp [intOf];omega
     ·have ek:k=c.bnds.length:=by omega
      have hlt2:¬ (k:Int)<(c.reps.length:Int)-1:=by omega
      clear hk2
      have HF:Hid (Qn c=true):=QdG HZ.out HR.out (by rw [<- ek];exact HA.out)
      clear ek
      go_wp2
      go_ret
      exact ⟨Qm HF.out,hB⟩
theorem Qbf {c:Ql} (h:Qn c=true):1<=c.reps.length/\c.reps.length<=4/\c.bnds.length+1=c.reps.length:=by
 have:XI c=true:=by
  cases hz:XI c
  ·rw [UF hz] at h;cases h
  ·rfl
 simpa [XI,and_assoc] using this
theorem Qcy {k:IntKind} {a b:Int} (h:a=b):Ending.returned (.int k b) = .returned (.int k a):=by rw [h]
def XU (l:List ByteArray) (key:ByteArray):Nat->Nat
 | 0=>0
 | k+1=>XU l key k+if Qy key (l.getD k Qt) then 0 else 1
def Qjv (c:Ql) (key:ByteArray):Nat:=XU c.bnds key c.bnds.length
def QO (c:Ql) (key:ByteArray):Int:=if Qn c then (Qjv c key:Int) else -1
theorem QeY (l:List ByteArray) (key:ByteArray):∀ k,XU l key k<=k
 | 0=>Nat.le_refl _
 | k+1=>by have:=QeY l key k;simp only [XU];split <;> omega
theorem QdW {l:List ByteArray} {key:ByteArray} {n p:Nat} (h:QB l n=true) (hp:p<=n) (h1:∀ m,m<p->Qy (l.getD m Qt) key=true) (h2:∀ m,p<=m->m<n->Qy (l.getD m Qt) key=false) :
  ∀ k,k<=n->XU l key k=min k p+if p<k/\l.getD p Qt=key then 1 else 0
 | 0,_=>by simp [XU]
 | k+1,hk=>by
  have ih:=QdW h hp h1 h2 k (by omega)
  have step:XU l key (k+1)=XU l key k+(if Qy key (l.getD k Qt)=true then 0 else 1):=rfl
  rw [step,ih]
  by_cases hkp:k<p
  ·have hx:=QdE (h1 k hkp)
   rw [if_neg (c:=Qy key (l.getD k Qt)=true) (by rw [hx];decide),if_neg (c:=p<k/\l.getD p Qt=key) (fun q=>by have:=q.1;omega),if_neg (c:=p<k+1/\l.getD p Qt=key) (fun q=>by have:=q.1;omega)]
   omega
  ·have hn:=h2 k (by omega) (by omega)
   by_cases e:k=p
   ·subst e
    rw [if_neg (c:=k<k/\l.getD k Qt=key) (fun q=>by have:=q.1;omega)]
    by_cases ek:l.getD k Qt=key
    ·rw [if_neg (c:=Qy key (l.getD k Qt)=true) (by rw [ek,VU];decide),if_pos (c:=k<k+1/\l.getD k Qt=key) ⟨by omega,ek⟩];omega
    ·have hx:Qy key (l.getD k Qt)=true:=by
      cases hx:Qy key (l.getD k Qt)
      ·exact absurd (VV hn hx) ek
      ·rfl
     rw [if_pos (c:=Qy key (l.getD k Qt)=true) hx,if_neg (c:=k<k+1/\l.getD k Qt=key) (fun q=>ek q.2)];omega
   ·have hlt:=Uk h (i:=p) (j:=k) (by omega) (by omega)
    have hx:Qy key (l.getD k Qt)=true:=by
     have hpn:=h2 p (Nat.le_refl _) (by omega)
     cases hq:Qy key (l.getD p Qt)
     ·have:=VV hpn hq;rw [<- this];exact hlt
     ·exact Y1 hq hlt
    rw [if_pos (c:=Qy key (l.getD k Qt)=true) hx]
    by_cases ek:l.getD p Qt=key
    ·rw [if_pos (c:=p<k/\l.getD p Qt=key) ⟨by omega,ek⟩,if_pos (c:=p<k+1/\l.getD p Qt=key) ⟨by omega,ek⟩];omega
    ·rw [if_neg (c:=p<k/\l.getD p Qt=key) (fun q=>ek q.2),if_neg (c:=p<k+1/\l.getD p Qt=key) (fun q=>ek q.2)];omega
theorem Uo {c:Ql} (h:Qn c=true) (key:ByteArray):0<=QO c key/\QO c key<c.reps.length:=by
 have h1:=QeY c.bnds key c.bnds.length
 have h2:=(Qbf h).2.2
 simp only [QO,h,if_true,Qjv]
 omega
theorem QgZ {c:Ql} (h:Qn c=false) (key:ByteArray):QO c key = -1:=by simp [QO,h]
theorem Qg0 {c:Ql} (h:Qn c=true) (key:ByteArray):QO c key=(XU c.bnds key c.bnds.length:Nat):=by simp [QO,h,Qjv]
def Up (m:KV):List (List UInt8):=m.map fun p=>p.1.data.toList
theorem Qjw {m:KV} (h:Zg m):(Up m).Pairwise fun a b=>a<b:=by
 refine List.pairwise_map.2 (h.imp fun {p q} hpq=>?_)
 have e:∀ b:ByteArray,b.toList=b.data.toList:=fun b=>by rw [ByteArray.toList_eq]
 simp only [Qy,JO,decide_eq_true_eq,e] at hpq
 exact hpq
theorem QaB {m:KV} (h:Zg m):(Up m).Nodup:=(Qjw h).imp fun hab e=>by subst e;exact List.lt_irrefl _ hab
theorem Qfy {m:KV} (h:Zg m) (hne:∀ p ∈ m,p.2 ≠ []) (x:List UInt8):x ∈ Up m ↔ (!(getK m ⟨x.toArray⟩).isEmpty)=true:=by
 constructor
 ·intro hx
  obtain ⟨p,hp,rfl⟩:=List.mem_map.1 hx
  have e:(⟨p.1.data.toList.toArray⟩:ByteArray)=p.1:=rfl
  rw [e,Qa8 h (l:=p.2) hp]
  have:=hne p hp
  cases hq:p.2 with
  | nil=>exact absurd hq this
  | cons a l=>rfl
 ·intro hx
  by_cases hm:getK m ⟨x.toArray⟩=[]
  ·rw [hm] at hx;cases hx
  ·exact List.mem_map.2 ⟨_,Vx hm,by simp⟩
theorem Qk2 {w:World} {B N mb:Nat} {D:DataW Value} {V:ByteArray->Value} {O:Nat->Prop} {m:KV} (h:Yz w B N mb D V O m) (hr:Zg m) (hne:∀ p ∈ m,p.2 ≠ []):(Up m).Perm (strKeys D):=by
 refine Collected.perm (left:=fun _=>false) ⟨QaB hr,fun x=>?_⟩ h.own Vz Tryz.underlying9 (fun _=>rfl)
 have e:=h.has ⟨x.toArray⟩
 rw [show lit ⟨x.toArray⟩=Lit.string x by simp [lit]] at e
 rw [Qfy hr hne,e]
 simp
end Go.Proofs.YtcldpmkhpmlcbaaGreatDoor
