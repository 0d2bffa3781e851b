/- part -/
import Derived.Test.YtcldpmkhpmlcbaaGreatDoorJ1
import Derived.Test.YtcldpmkhpmlcbaaGreatDoorShelfA
import Derived.Test.YtcldpmkhpmlcbaaGreatDoorJ4
import Derived.Lib.QuietBelow
import Derived.Deep.RegionHeld3
import Derived.Maps.AppendAt
set_option linter.unusedVariables false
set_option linter.unusedSimpArgs false
namespace Go.Proofs.YtcldpmkhpmlcbaaGreatDoor
open Go.RowKit Go.Shelf
def XT (w:World):Prop:=Lib.Utf8Tabs 0 1 w
theorem XT.later {w w':World} (h:XT w) (hb:Below w.heap.size w w'):XT w':=Utf8Tabs_below h hb
theorem Qaf (s:ByteArray):s = { data:=#[] } \/ (s.toList.isEmpty=false/\(¬ s.toList=[])/\decide (s=Qt)=false):=by
 by_cases h:s = { data:=#[] }
 ·exact .inl h
 ·have h0:¬ s.toList=[]:=fun e=>h ((toList_nil_iff_emptyBytes s).1 e)
  exact .inr ⟨by simpa using h0,h0,by simpa using (show ¬ s=Qt from h)⟩
theorem QdP:decide (({ data:=#[] }:ByteArray)=Qt)=true:=decide_eq_true rfl
theorem fv0 (n:Nat) (s:ByteArray):Ze ⟨0,n,s⟩=(decide (n=0) && decide (s=Qt)):=rfl
theorem fv1 (n:Nat) (s:ByteArray):Ze ⟨1,n,s⟩=(decide (s=Qt) && decide (XJ n=n)):=rfl
theorem fv2 (n:Nat) (s:ByteArray):Ze ⟨2,n,s⟩=(decide (n=0) && decide (s.size<=40) && Lib.validD s.data.toList):=by simp [Ze]
theorem fv3 {k:Int} (n:Nat) (s:ByteArray) (h0:k ≠ 0) (h1:k ≠ 1) (h2:k ≠ 2):Ze ⟨k,n,s⟩=false:=by simp [Ze,h0,h1,h2]
theorem QdQ (k:Int):k=0 \/ k=1 \/ k=2 \/ ((k == 0)=false/\(k == 1)=false/\(k == 2)=false):=by
 by_cases h0:k=0;exact .inl h0
 by_cases h1:k=1;exact .inr (.inl h1)
 by_cases h2:k=2;exact .inr (.inr (.inl h2))
 exact .inr (.inr (.inr ⟨by simpa using h0,by simpa using h1,by simpa using h2⟩))
set_option maxRecDepth 100000 in
theorem Ku (k:Int) (n:Nat) (s:ByteArray) (hs:s.size<=9223372036854775807) (w:World) (hT:XT w) :
  Calls Tryz.prog 139 #[.agg #[.int .i64 k,.int .u64 n,.string s]] w fun e w'=>e = .returned (.bool (Ze ⟨k,n,s⟩))/\Below w.heap.size w w':=by
 obtain ⟨W,eW,HB,c0,c1,c2⟩:=Qoo w (.int .i64 k) (.int .u64 n) (.string s) 66
 have hT:=hT.later HB
 have hn:n=0 \/ (¬ n=0):=by omega
 rcases QdQ k with rfl | rfl | rfl | ⟨k0,k1,k2⟩
 ·rcases hn with rfl | n1 <;> rcases Qaf s with rfl | ⟨s1,s2,s3⟩
  all_goals
   try rw [show ((0:Nat):Int)=0 from rfl] at eW
   go_enter Tryz.func139,Tryz.ntmps139
   go_wp2
   go_ret
   exact ⟨Qm (by rw [fv0];simp [QdP, *]),by first | exact HB | exact Qb HB⟩
 ·have hc:((XJ n:Int) == (n:Int))=decide (XJ n=n):=by
   by_cases h:XJ n=n
   ·simp [h]
   ·simp [h];omega
  rcases Qaf s with rfl | ⟨s1,s2,s3⟩
  all_goals
   have hc':=Lib.hid hc
   clear hc
   go_enter Tryz.func139,Tryz.ntmps139
   go_wp2_with fail
   go_quiet ((go_at_call 181;exact YJ (Qky n _)))
   go_wp2
   go_ret
   exact ⟨Qm (by rw [fv1];rw [<- hc'.out];simp [QdP, *]),Qj HB _⟩
 ·by_cases hs4:s.size<=40
  ·rcases hn with rfl | n1
   all_goals
    try rw [show ((0:Nat):Int)=0 from rfl] at eW
    go_enter Tryz.func139,Tryz.ntmps139
    go_wp2_with (go_at_call 182;refine (Tryz.utf8_ValidString s _ hs hT).mono ?_;rintro e w1 ⟨rfl,hb⟩;replace HB:=Qa HB hb)
    go_ret
    exact ⟨Qm (by rw [fv2];simp [*]),by first | exact HB | exact Qb HB⟩
  ·rcases hn with rfl | n1
   all_goals
    try rw [show ((0:Nat):Int)=0 from rfl] at eW
    go_enter Tryz.func139,Tryz.ntmps139
    go_wp2
    go_ret
    exact ⟨Qm (by rw [fv2];simp [*]),by first | exact HB | exact Qb HB⟩
 ·go_enter Tryz.func139,Tryz.ntmps139
  go_wp2
  go_ret
  exact ⟨Qm (by rw [fv3 _ _ (by simpa using k0) (by simpa using k1) (by simpa using k2)]),HB⟩
theorem Qos (n b0 b1 b2 b3:Nat) (h:(Lib.decodeN n b0 b1 b2 b3).1=65533) :
  (Lib.decodeN n b0 b1 b2 b3).2=if 3<=n/\b0=239/\b1=191/\b2=189 then 3 else 1:=by
 unfold Lib.decodeN at h ⊢
 split at h
 ·omega
 ·rename_i q0
  rw [if_neg q0]
  split at h
  ·rename_i q1
   rw [if_pos q1]
   split at h
   ·omega
   ·rename_i q2
    rw [if_neg q2,if_neg (by omega)]
  ·rename_i q1
   rw [if_neg q1]
   split at h
   ·rename_i q2
    rw [if_pos q2]
    split at h
    ·rename_i q3
     rw [if_pos q3,if_pos (by simp only at h;omega)]
    ·rename_i q3
     rw [if_neg q3,if_neg (by omega)]
   ·rename_i q2
    rw [if_neg q2]
    split at h
    ·rename_i q3
     rw [if_pos q3]
     split at h
     ·rename_i q4
      simp only at h
      omega
     ·rename_i q4
      rw [if_neg q4,if_neg (by omega)]
    ·rename_i q3
     rw [if_neg q3,if_neg (by omega)]
theorem QgS (s:ByteArray) (i:Nat) (h:i<s.size):s.get! i=s[i]'h:=by
 cases s with
 | mk d=>exact getElem!_pos d i h
def Yq (s:ByteArray) (pos:Nat):Bool:=Lib.validD (s.data.toList.drop pos)
theorem Qh4 {s:ByteArray} {pos:Nat} (h:¬ pos<s.size):Yq s pos=true:=by
 have h':s.data.size<=pos:=by have:s.data.size=s.size:=rfl;omega
 have:s.data.toList.drop pos=[]:=List.drop_eq_nil_of_le (by simpa using h')
 unfold Yq
 rw [this]
 exact Lib.validD_nil
theorem UL {s:ByteArray} {pos:Nat} (h:pos<s.size):Yq s pos=if (Utf8.decode s pos).1=65533/\(Utf8.decode s pos).2=1 then false else Yq s (pos+(Utf8.decode s pos).2):=by
 have hne:s.data.toList.drop pos ≠ []:=by
  intro h0
  have:=congrArg List.length h0
  have hz:s.data.size=s.size:=rfl
  simp at this
  omega
 unfold Yq
 rw [Lib.validD_step _ hne,Lib.decodeL_drop,List.drop_drop]
theorem QgT {s:ByteArray} {pos r wd:Nat} (h:pos<s.size) (hd:Utf8.decode s pos=(r,wd)) (hr:r ≠ 65533):Yq s pos=Yq s (pos+wd):=by
 rw [UL h,hd,if_neg (by simp;omega)]
theorem Qgl {s:ByteArray} {pos wd:Nat} (h:pos<s.size) (hd:Utf8.decode s pos=(65533,wd)) (hr:s.size-pos<3):Yq s pos=false:=by
 have hw:=Qos (s.size-pos) _ _ _ _ (by rw [<- Lib.decode_at,hd])
 rw [<- Lib.decode_at,hd,if_neg (by omega)] at hw
 rw [UL h,hd,if_pos ⟨rfl,hw⟩]
theorem Qgm {s:ByteArray} {pos wd:Nat} (h:pos<s.size) (h1:pos+1<s.size) (h2:pos+2<s.size) (hd:Utf8.decode s pos=(65533,wd)) :
  Yq s pos=if (s[pos]'h).toNat=239/\(s[pos+1]'h1).toNat=191/\(s[pos+2]'h2).toNat=189 then Yq s (pos+wd) else false:=by
 have hw:=Qos (s.size-pos) _ _ _ _ (by rw [<- Lib.decode_at,hd])
 rw [<- Lib.decode_at,hd,QgS _ _ h,QgS _ _ h1,QgS _ _ h2] at hw
 simp only at hw
 rw [UL h,hd]
 by_cases hc:(s[pos]'h).toNat=239/\(s[pos+1]'h1).toNat=191/\(s[pos+2]'h2).toNat=189
 ·rw [if_pos ⟨by omega,hc⟩] at hw
  rw [if_pos hc,if_neg (by simp;omega)]
 ·rw [if_neg (fun x=>hc x.2)] at hw
  rw [if_neg hc,if_pos ⟨rfl,hw⟩]
set_option maxRecDepth 100000 in
theorem QkT (s:ByteArray) (hs:s.size<=9223372036854775807) (w:World):Calls Tryz.prog 109 #[.string s] w fun e w'=>e = .returned (.bool (Lib.validD s.data.toList))/\Below w.heap.size w w':=by
 have HV:Hid (Lib.validD s.data.toList=Yq s 0):=rfl
 go_enter Tryz.func109,Tryz.ntmps109
 go_wp2_with fail
 go_loopw [] (fun wr=>∃ pos:Nat,Hid (Yq s pos=Yq s 0)/\wr=w.iter s pos) (fun wr=>s.size-wr.iterPos w.heap.size)
 case atStart=>exact ⟨0,rfl,rfl⟩
 case round =>
  obtain ⟨pos,hpos,rfl⟩:=hrel
  by_cases hp:pos<s.size
  ·have hwd:=Lib.width_pos s pos
   have hnx:∀ ty,(Instr.next (.pointer (some ⟨w.heap.size,0,none⟩)) true ty).run Tryz.prog (w.iter s pos)=_:=fun ty=>run_next_any w s pos ty hp
   obtain ⟨⟨r,wd⟩,hd⟩:∃ x,Utf8.decode s pos=x:=⟨_,rfl⟩
   simp only [hd] at hnx hwd
   by_cases hr:r=65533
   ·subst hr
    by_cases h3:s.size-pos<3
    ·have HQ:=Lib.hid (Qgl hp hd h3)
     have h3':(s.size:Int)-pos<3:=by omega
     clear hd
     go_wp2
     go_ret
     exact ⟨Qm (by rw [HV.out, <- hpos.out,HQ.out]),Qc _ _⟩
    ·have h1:pos+1<s.size:=by omega
     have h2:pos+2<s.size:=by omega
     have HQ:=Lib.hid (Qgm hp h1 h2 hd)
     have h3':¬ ((s.size:Int)-pos<3):=by omega
     clear hd h3
     by_cases e0:(s[pos]'hp).toNat=239
     ·have q0:(((s[pos]'hp).toNat:Int) != 239)=false:=by rw [e0];rfl
      by_cases e1:(s[pos+1]'h1).toNat=191
      ·have q1:(((s[pos+1]'h1).toNat:Int) != 191)=false:=by rw [e1];rfl
       by_cases e2:(s[pos+2]'h2).toNat=189
       ·have q2:(((s[pos+2]'h2).toNat:Int) != 189)=false:=by rw [e2];rfl
        have HF:Hid (Yq s pos=Yq s (pos+wd)):=by show _=_;rw [HQ.out,if_pos ⟨e0,e1,e2⟩]
        clear e0 e1 e2 HQ
        go_wp2
        go_roundw
        case rel=>exact ⟨pos+wd,by show _=_;rw [<- HF.out,hpos.out],rfl⟩
        case measure=>simp;omega
       ·have q2:(((s[pos+2]'h2).toNat:Int) != 189)=true:=by simp;omega
        have HF:Hid (Yq s pos=false):=by show _=_;rw [HQ.out,if_neg (by omega)]
        clear e0 e1 e2 HQ
        go_wp2
        go_ret
        exact ⟨Qm (by rw [HV.out, <- hpos.out,HF.out]),Qc _ _⟩
      ·have q1:(((s[pos+1]'h1).toNat:Int) != 191)=true:=by simp;omega
       have HF:Hid (Yq s pos=false):=by show _=_;rw [HQ.out,if_neg (by omega)]
       clear e0 e1 HQ
       go_wp2
       go_ret
       exact ⟨Qm (by rw [HV.out, <- hpos.out,HF.out]),Qc _ _⟩
     ·have q0:(((s[pos]'hp).toNat:Int) != 239)=true:=by simp;omega
      have HF:Hid (Yq s pos=false):=by show _=_;rw [HQ.out,if_neg (by omega)]
      clear e0 HQ
      go_wp2
      go_ret
      exact ⟨Qm (by rw [HV.out, <- hpos.out,HF.out]),Qc _ _⟩
   ·have HQ:=Lib.hid (QgT hp hd hr)
    have hr':((r:Int) == 65533)=false:=by simp;omega
    clear hd hr
    go_wp2
    go_roundw
    case rel=>exact ⟨pos+wd,by show _=_;rw [<- HQ.out,hpos.out],rfl⟩
    case measure=>simp;omega
  ·have hnx:∀ ty,(Instr.next (.pointer (some ⟨w.heap.size,0,none⟩)) true ty).run Tryz.prog (w.iter s pos)=_:=fun ty=>run_next_end w s pos ty hp
   have HE:=Lib.hid (Qh4 hp)
   go_wp2
   go_ret
   exact ⟨Qm (by rw [HV.out, <- hpos.out,HE.out]),Qc _ _⟩
set_option maxRecDepth 100000 in
theorem YC (k:Int) (n:Nat) (s:ByteArray) (hn:n<18446744073709551616) (hs:s.size<=9223372036854775807) (w:World) :
  Calls Tryz.prog 57 #[.agg #[.int .i64 k,.int .u64 n,.string s]] w fun e w'=>e = .returned (.bool (Ze ⟨k,n,s⟩))/\Below w.heap.size w w':=by
 obtain ⟨W,eW,HB,c0,c1,c2⟩:=Qoo w (.int .i64 k) (.int .u64 n) (.string s) 66
 rcases QdQ k with rfl | rfl | rfl | ⟨k0,k1,k2⟩
 ·have hn:n=0 \/ (¬ n=0):=by omega
  rcases hn with rfl | n1 <;> rcases Qaf s with rfl | ⟨s1,s2,s3⟩
  all_goals
   try rw [show ((0:Nat):Int)=0 from rfl] at eW
   go_enter Tryz.func57,Tryz.ntmps57
   go_wp2
   go_ret
   exact ⟨Qm (by rw [fv0];simp [QdP, *]),by first | exact HB | exact Qb HB⟩
 ·have hc:((XJ n:Int) == (n:Int))=decide (XJ n=n):=by
   by_cases h:XJ n=n
   ·simp [h]
   ·simp [h];omega
  rcases Qaf s with rfl | ⟨s1,s2,s3⟩
  all_goals
   have hc':=Lib.hid hc
   clear hc
   go_enter Tryz.func57,Tryz.ntmps57
   go_wp2_with fail
   go_quiet ((go_at_call 108;exact YJ (QgE n hn _)))
   go_wp2
   go_ret
   exact ⟨Qm (by rw [fv1];rw [<- hc'.out];simp [QdP, *]),Qj HB _⟩
 ·have hn:n=0 \/ (¬ n=0):=by omega
  by_cases hs4:s.size<=40
  ·rcases hn with rfl | n1
   all_goals
    try rw [show ((0:Nat):Int)=0 from rfl] at eW
    go_enter Tryz.func57,Tryz.ntmps57
    go_wp2_with (go_at_call 109;refine (QkT s hs _).mono ?_;rintro e w1 ⟨rfl,hb⟩;replace HB:=Qa HB hb)
    go_ret
    exact ⟨Qm (by rw [fv2];simp [*]),by first | exact HB | exact Qb HB⟩
  ·rcases hn with rfl | n1
   all_goals
    try rw [show ((0:Nat):Int)=0 from rfl] at eW
    go_enter Tryz.func57,Tryz.ntmps57
    go_wp2
    go_ret
    exact ⟨Qm (by rw [fv2];simp [*]),by first | exact HB | exact Qb HB⟩
 ·go_enter Tryz.func57,Tryz.ntmps57
  go_wp2
  go_ret
  exact ⟨Qm (by rw [fv3 _ _ (by simpa using k0) (by simpa using k1) (by simpa using k2)]),HB⟩
open Go.Maps Go.Sort
theorem QW.stay {w w':World} {B p N N':Nat} {O:Nat->Prop} {s:QR} (h:QW w B p N O s) (hb:Below w.heap.size w w') (hN:N<=N') (hB:B<=w.heap.size):QW w' B p N' (ext O w w') s:=by
 obtain ⟨mb,D,V,h⟩:=h.later hb
 refine ⟨mb,D,V,?_⟩
 exact { blk:=h.blk,keys:={ own:=h.keys.own.mono hN,has:=h.keys.has,at_:=h.keys.at_,row:=h.keys.row,nil:=h.keys.nil,apart:=h.keys.apart,mine:=fun k g hg=>⟨.inl (h.keys.mine k g hg).1,(h.keys.mine k g hg).2⟩,hm:=.inl h.keys.hm },hp:=.inl h.hp,n1:=h.n1,n2:=h.n2,lt:=fun k hk=>Or.elim hk (h.lt k) (fun e=>⟨by omega,e.2⟩) }
def QkU (w:World) (B p N:Nat) (O:Nat->Prop) (s:QR) (n:Nat) (l:List Wr) (e:Ending) (w':World):Prop :=
 e = .returned (.int .i64 (UJ s n l))/\QW w' B p (N+l.length) (ext O w w') (QH s n l)/\Qg O w w'
theorem QgU {l:List Wr} {k:Nat} {x:ByteArray} {v:JQ} (h:l.getD k Zf=⟨x,v⟩) (hk:Yb x=false):KM l k=false:=by simp only [KM,h,hk,Bool.false_and]
theorem QgV {l:List Wr} {k:Nat} {x:ByteArray} {v:JQ} (h:l.getD k Zf=⟨x,v⟩) (hv:Ze v=false):KM l k=false:=by simp only [KM,h,hv,Bool.false_and,Bool.and_false]
theorem Qft {l:List Wr} {k:Nat} {x y:ByteArray} {v u:JQ} (h:l.getD k Zf=⟨x,v⟩) (h':l.getD (k-1) Zf=⟨y,u⟩) (hk0:¬ k=0) (hl:Qy y x=false):KM l k=false:=by simp only [KM,h,h',hl,beq_eq_false_iff_ne.2 hk0,Bool.or_false,Bool.and_false]
theorem QcO {l:List Wr} {k:Nat} {x:ByteArray} {v:JQ} (h:l.getD k Zf=⟨x,v⟩) (hk:Yb x=true) (hv:Ze v=true) (hk0:k=0):ZR l (k+1)=true:=by
 subst hk0
 simp only [ZR,KM,h,hk,hv];rfl
theorem QdR {l:List Wr} {k:Nat} {x y:ByteArray} {v u:JQ} (ha:ZR l k=true) (h:l.getD k Zf=⟨x,v⟩) (h':l.getD (k-1) Zf=⟨y,u⟩) (hk:Yb x=true) (hv:Ze v=true) (hl:Qy y x=true):ZR l (k+1)=true:=by
 simp only [ZR,KM,ha,h,h',hk,hv,hl,Bool.or_true,Bool.and_self]
theorem QbQ {s:QR} {n:Nat} {l:List Wr} {k:Nat} (hn:¬ n<=s.last) (hk:k<l.length) (h:KM l k=false):UJ s n l=2/\QH s n l=s:=by
 have:Yv l=false:=Qbz hk h
 simp [UJ,QH,hn,this]
theorem Yf.out {O:Nat->Prop} {w w':World} {A:Option Addr} {l:List Wr} (h:Yf w A l) (hb:Qg O w w') (ho:∀ a,A=some a->0<l.length->¬ O a.block):Yf w' A l:=by
 intro i hi
 obtain ⟨b,off,e,h0,h1,h2,h3⟩:=h i hi
 have hn:¬ O b:=ho ⟨b,off,none⟩ e (by omega)
 exact ⟨b,off,e,hb.cell h0 hn,hb.cell h1 hn,hb.cell h2 hn,hb.cell h3 hn⟩
theorem ZB {P:Program} {f:FuncId} {args:Array Value} {w:World} {z x:Bool} (e:z=x) (h:Calls P f args w fun e w'=>e = .returned (.bool z)/\Below w.heap.size w w'):Calls P f args w fun e w'=>e = .returned (.bool x)/\Below w.heap.size w w':=by
 rw [e] at h;exact h
theorem Jd {a b:Int} (h:a=b):Ending.returned (.int .i64 b) = .returned (.int .i64 a):=by rw [h]
theorem QgW {w2 w3:World} {mb p g:Nat} {a b c d e:Value} (h:w2.mapTurned w3 mb) (S:w2.cell? ⟨p,0,none⟩=some a/\w2.cell? ⟨g,0,none⟩=some b/\w2.cell? ⟨g,1,none⟩=some c/\w2.cell? ⟨g,2,none⟩=some d/\w2.cell? ⟨g,3,none⟩=some e) (hp:p ≠ mb) (hg:g ≠ mb) :
  w3.cell? ⟨p,0,none⟩=some a/\w3.cell? ⟨g,0,none⟩=some b/\w3.cell? ⟨g,1,none⟩=some c/\w3.cell? ⟨g,2,none⟩=some d/\w3.cell? ⟨g,3,none⟩=some e:=by
 have hp':∀ j,some (⟨p,j,none⟩:Addr).block ≠ some mb:=fun j e=>hp (by injection e)
 have hg':∀ j,some (⟨g,j,none⟩:Addr).block ≠ some mb:=fun j e=>hg (by injection e)
 exact ⟨h.grown.cell S.1 (hp' 0),h.grown.cell S.2.1 (hg' 0),h.grown.cell S.2.2.1 (hg' 1),h.grown.cell S.2.2.2.1 (hg' 2),h.grown.cell S.2.2.2.2 (hg' 3)⟩
theorem Yf.low {O:Nat->Prop} {w:World} {A:Option Addr} {l:List Wr} {B:Nat} (h:Yf w A l) (hB:w.heap.size<=B) (hO:∀ k,O k->B<=k):∀ a,A=some a->0<l.length->¬ O a.block:=by
 intro a e hl ho
 obtain ⟨b,off,e',h0,_⟩:=h 0 hl
 rw [e] at e'
 cases e'
 have h9:b<w.heap.size:=Yc h0
 have:=hO b ho
 omega
set_option maxRecDepth 100000 in
set_option maxHeartbeats 8000000 in
theorem Qh5 {w:World} {B p N:Nat} {O:Nat->Prop} {s:QR} (h:QW w B p N O s) (hB:B<=w.heap.size) (hs:Yw s) (n:Nat) (l:List Wr) (A:Option Addr) (ca:Nat) (hA:Yf w A l) (hAO:∀ a,A=some a->0<l.length->¬ O a.block) (hok:Qad l) (hT:XT w)
  (hN:N+l.length<=800000) (hI:(Qq s.ks).length+l.length<=800000) :
  Calls Tryz.prog 99 #[.pointer (some ⟨p,0,none⟩),.int .u64 (n:Int),.slice A l.length ca] w (QkU w B p N O s n l):=by
 have HS:=Lib.hid h
 have h:=h
 obtain ⟨mb,D,V,h⟩:=h
 have c1:=h.c1
 have HX0:=Lib.hid h
 clear h
 by_cases hn:n<=s.last
 ·have hl:((n:Int)<=(s.last:Int)):=by omega
  have HE:Hid (UJ s n l=1/\QH s n l=s):=by show _/\_;simp [UJ,QH,hn]
  clear hn
  go_enter Tryz.func99,Tryz.ntmps99
  go_wp2
  go_ret
  refine ⟨Jd HE.out.1,?_,Qg.refl _ _⟩
  rw [HE.out.2]
  exact HS.out.stay (Below.refl _ _) (by omega) hB
 ·have hl:¬ ((n:Int)<=(s.last:Int)):=by omega
  have HNN:=Lib.hid hn
  clear hn
  go_enter Tryz.func99,Tryz.ntmps99
  go_wp2
  go_loopw [23] (fun i wr=>∃ k:Nat,k<=l.length/\i = .int .i64 k/\Hid (ZR l k=true)/\Below w.heap.size w wr) (fun i _=>l.length-(intOf i).toNat)
  case atStart=>exact ⟨0,Nat.zero_le _,rfl,rfl,Below.refl _ _⟩
  case round =>
   obtain ⟨k,hk,rfl,HA,hw⟩:=hrel
   have hr:=hA.later hw
   by_cases hlt:k<l.length
   ·obtain ⟨b,off,x,z,m,tx,rfl,d0,d1,d2,d3,HX⟩:=hr.at' hlt
    have hsx:x.size<=maxLen:=by have:=hok.k k hlt;rw [HX.out] at this;exact this
    have hgg:=hok.v k hlt
    rw [HX.out] at hgg
    have hgb:=hgg.b
    have hgt:=hgg.t
    simp only at hgb hgt
    clear hgg
    have hki:(k:Int)<(l.length:Int):=by omega
    obtain ⟨wb,eW2,HB2,hsz2,hrow2⟩:=QgR wr (.string x) (.int .i64 z) (.int .u64 (m:Int)) (.string tx) 79
    obtain ⟨x0,x1,x2,x3,_⟩:=UK hrow2
    have hTb:=hT.later (Qa hw HB2)
    have hBb:=Qa hw HB2
    clear hrow2 hsz2
    cases hkey:Yb x
    ·have HF:=Lib.hid (QbQ (s:=s) (n:=n) HNN.out hlt (QgU HX.out hkey))
     replace hkey:=Lib.hid hkey
     go_wp2
     have k0:=cell_regrown x0
     have cK:∀ d os,Calls Tryz.prog 79 #[.string x] (grow (redrawn wb d) os) fun e w''=>e = .returned (.bool false)/\∃ p:Regrown,w''=grow (redrawn wb p.d) p.os:=fun d os=>Calls.regrown_of (ZB hkey.out (Xs x _ hsx))
     refine wp_region_quiet_below (by kernel_rfl) (by kernel_rfl) ?_
     repeat (go_big_quiet_step (first | exact cK _ _))
     refine wpQuiet_nil ?_
     intro _ hw'
     obtain ⟨⟨dq,osq⟩,hw''⟩:=hw'
     subst hw''
     have HQ:=below_regrown wb dq osq
     clear k0 cK
     go_wp2
     go_ret
     refine ⟨Jd HF.out.1,?_,Qg.of_below (Qa hBb HQ)⟩
     rw [HF.out.2]
     exact HS.out.stay (Qa hBb HQ) (by omega) hB
    ·obtain ⟨fv,hfv⟩:∃ fv,Ze ⟨z,m,tx⟩=fv:=⟨_,rfl⟩
     cases fv
     ·have HF:=Lib.hid (QbQ (s:=s) (n:=n) HNN.out hlt (QgV HX.out hfv))
      replace hkey:=Lib.hid hkey
      replace hfv:=Lib.hid hfv
      go_wp2
      have k0:=cell_regrown x0
      have k1:=cell_regrown x1
      have k2:=cell_regrown x2
      have k3:=cell_regrown x3
      have cK:∀ d os,Calls Tryz.prog 79 #[.string x] (grow (redrawn wb d) os) fun e w''=>e = .returned (.bool true)/\∃ p:Regrown,w''=grow (redrawn wb p.d) p.os:=fun d os=>Calls.regrown_of (ZB hkey.out (Xs x _ hsx))
      have cF:∀ d os,Calls Tryz.prog 139 #[.agg #[.int .i64 z,.int .u64 m,.string tx]] (grow (redrawn wb d) os) fun e w''=>e = .returned (.bool false)/\∃ p:Regrown,w''=grow (redrawn wb p.d) p.os:=fun d os=>Calls.regrown_of (ZB hfv.out (Ku z m tx hgt _ (hTb.later (below_regrown wb d os))))
      refine wp_region_quiet_below (by kernel_rfl) (by kernel_rfl) ?_
      repeat (go_big_quiet_step (first | exact cK _ _ | exact cF _ _))
      refine wpQuiet_nil ?_
      intro _ hw'
      obtain ⟨⟨dq,osq⟩,hw''⟩:=hw'
      subst hw''
      have HQ:=below_regrown wb dq osq
      clear k0 k1 k2 k3 cK cF
      go_wp2
      go_ret
      refine ⟨Jd HF.out.1,?_,Qg.of_below (Qa hBb HQ)⟩
      rw [HF.out.2]
      exact HS.out.stay (Qa hBb HQ) (by omega) hB
     ·by_cases hk0:k=0
      ·have HR:Hid (ZR l (k+1)=true):=QcO HX.out hkey hfv hk0
       have hg:decide (0<k)=false:=by rw [decide_eq_false_iff_not];omega
       clear hk0
       replace hkey:=Lib.hid hkey
       replace hfv:=Lib.hid hfv
       go_wp2
       have k0:=cell_regrown x0
       have k1:=cell_regrown x1
       have k2:=cell_regrown x2
       have k3:=cell_regrown x3
       have cK:∀ d os,Calls Tryz.prog 79 #[.string x] (grow (redrawn wb d) os) fun e w''=>e = .returned (.bool true)/\∃ p:Regrown,w''=grow (redrawn wb p.d) p.os:=fun d os=>Calls.regrown_of (ZB hkey.out (Xs x _ hsx))
       have cF:∀ d os,Calls Tryz.prog 139 #[.agg #[.int .i64 z,.int .u64 m,.string tx]] (grow (redrawn wb d) os) fun e w''=>e = .returned (.bool true)/\∃ p:Regrown,w''=grow (redrawn wb p.d) p.os:=fun d os=>Calls.regrown_of (ZB hfv.out (Ku z m tx hgt _ (hTb.later (below_regrown wb d os))))
       refine wp_region_quiet_below (by kernel_rfl) (by kernel_rfl) ?_
       repeat (go_big_quiet_step (first | exact cK _ _ | exact cF _ _))
       refine wpQuiet_nil ?_
       intro _ hw'
       obtain ⟨⟨dq,osq⟩,hw''⟩:=hw'
       subst hw''
       have HQ:=below_regrown wb dq osq
       clear k0 k1 k2 k3 cK cF
       go_wp2
       go_roundw
       case rel=>exact ⟨k+1,by omega,by go_num,HR,Qa hBb HQ⟩
       case measure=>simp [intOf];omega
      ·obtain ⟨b',off',y,z',n',tx',e,e0,_,_,_,HZ⟩:=hr.at' (k:=k-1) (by omega)
       injection e with e
       injection e with f1 f2
       subst f1 f2
       have hg:decide (0<k)=true:=by rw [decide_eq_true_iff];omega
       have hi:((k:Int)-1).toNat=k-1:=by omega
       have hk1:1<=k:=by omega
       have hk1i:(1:Int)<=(k:Int):=by omega
       have hk2i:(k:Int)-1<(l.length:Int):=by omega
       replace e0:=keep HB2 e0
       cases hl2:Qy y x
       ·have HF:=Lib.hid (QbQ (s:=s) (n:=n) HNN.out hlt (Qft HX.out HZ.out hk0 hl2))
        have hl':Op.bytesLess y.toList x.toList=false:=hl2
        clear hk0 hl2
        replace hkey:=Lib.hid hkey
        replace hfv:=Lib.hid hfv
        go_wp2
        have k0:=cell_regrown x0
        have k1:=cell_regrown x1
        have k2:=cell_regrown x2
        have k3:=cell_regrown x3
        have k4:=cell_regrown e0
        have cK:∀ d os,Calls Tryz.prog 79 #[.string x] (grow (redrawn wb d) os) fun e w''=>e = .returned (.bool true)/\∃ p:Regrown,w''=grow (redrawn wb p.d) p.os:=fun d os=>Calls.regrown_of (ZB hkey.out (Xs x _ hsx))
        have cF:∀ d os,Calls Tryz.prog 139 #[.agg #[.int .i64 z,.int .u64 m,.string tx]] (grow (redrawn wb d) os) fun e w''=>e = .returned (.bool true)/\∃ p:Regrown,w''=grow (redrawn wb p.d) p.os:=fun d os=>Calls.regrown_of (ZB hfv.out (Ku z m tx hgt _ (hTb.later (below_regrown wb d os))))
        refine wp_region_quiet_below (by kernel_rfl) (by kernel_rfl) ?_
        repeat (go_big_quiet_step (first | exact cK _ _ | exact cF _ _))
        refine wpQuiet_nil ?_
        intro _ hw'
        obtain ⟨⟨dq,osq⟩,hw''⟩:=hw'
        subst hw''
        have HQ:=below_regrown wb dq osq
        clear k0 k1 k2 k3 k4 cK cF
        go_wp2
        go_ret
        refine ⟨Jd HF.out.1,?_,Qg.of_below (Qa hBb HQ)⟩
        rw [HF.out.2]
        exact HS.out.stay (Qa hBb HQ) (by omega) hB
       ·have HR:Hid (ZR l (k+1)=true):=QdR HA.out HX.out HZ.out hkey hfv hl2
        have hl':Op.bytesLess y.toList x.toList=true:=hl2
        clear hk0 hl2
        replace hkey:=Lib.hid hkey
        replace hfv:=Lib.hid hfv
        go_wp2
        have k0:=cell_regrown x0
        have k1:=cell_regrown x1
        have k2:=cell_regrown x2
        have k3:=cell_regrown x3
        have k4:=cell_regrown e0
        have cK:∀ d os,Calls Tryz.prog 79 #[.string x] (grow (redrawn wb d) os) fun e w''=>e = .returned (.bool true)/\∃ p:Regrown,w''=grow (redrawn wb p.d) p.os:=fun d os=>Calls.regrown_of (ZB hkey.out (Xs x _ hsx))
        have cF:∀ d os,Calls Tryz.prog 139 #[.agg #[.int .i64 z,.int .u64 m,.string tx]] (grow (redrawn wb d) os) fun e w''=>e = .returned (.bool true)/\∃ p:Regrown,w''=grow (redrawn wb p.d) p.os:=fun d os=>Calls.regrown_of (ZB hfv.out (Ku z m tx hgt _ (hTb.later (below_regrown wb d os))))
        refine wp_region_quiet_below (by kernel_rfl) (by kernel_rfl) ?_
        repeat (go_big_quiet_step (first | exact cK _ _ | exact cF _ _))
        refine wpQuiet_nil ?_
        intro _ hw'
        obtain ⟨⟨dq,osq⟩,hw''⟩:=hw'
        subst hw''
        have HQ:=below_regrown wb dq osq
        clear k0 k1 k2 k3 k4 cK cF
        go_wp2
        go_roundw
        case rel=>exact ⟨k+1,by omega,by go_num,HR,Qa hBb HQ⟩
        case measure=>simp [intOf];omega
   ·have hfull:Hid (Yv l=true):=by show _=_;rw [Yv,show l.length=k by omega];exact HA.out
    clear HA
    have hB0:=hw.size
    have HST:=Lib.hid (HS.out.stay hw (Nat.le_add_right N 0) hB)
    go_wp2
    go_loopw [56] (fun i wr=>∃ j:Nat,j<=l.length/\i = .int .i64 j/\Hid (QW wr B p (N+j) (ext O w wr) ⟨Zx n s.ks (l.take j),s.last,s.low⟩)/\Qg O w wr) (fun i _=>l.length-(intOf i).toNat)
    case atStart=>exact ⟨0,Nat.zero_le _,rfl,HST,Qg.of_below hw⟩
    case round =>
     obtain ⟨j,hj,rfl,HI,hout⟩:=hrel
     obtain ⟨wc,rfl⟩:∃ wc:World,wc=wr:=⟨_,rfl⟩
     obtain ⟨mb2,D2,V2,h2⟩:=HI.out
     have c0:=h2.c0
     have c1:=h2.c1
     have f1:=h2.fz 1
     clear hw hr hk hlt
     by_cases hlt:j<l.length
     ·obtain ⟨b,off,x,z,m,tx,rfl,d0,d1,d2,d3,HX⟩:=(hA.out hout hAO).at' hlt
      have hsx:x.size<=maxLen:=by have:=hok.k j hlt;rw [HX.out] at this;exact this
      have hki:(j:Int)<(l.length:Int):=by omega
      obtain ⟨wb,eW2,HB2,hsz2,hrow2⟩:=QgR wc (.string x) (.int .i64 z) (.int .u64 (m:Int)) (.string tx) 79
      obtain ⟨x0,x1,x2,x3,_⟩:=UK hrow2
      have HK2:=Lib.hid (h2.keys.later HB2)
      replace hsz2:=Lib.hid hsz2
      have c0':=keep HB2 c0
      have HLK:Hid (∀ w',Below wb.heap.size wb w'->w'.cell? ⟨p,0,none⟩=some (.map (some mb2))/\w'.cell? ⟨wc.heap.size,0,none⟩=some (.string x)/\w'.cell? ⟨wc.heap.size,1,none⟩=some (.int .i64 z)/\w'.cell? ⟨wc.heap.size,2,none⟩=some (.int .u64 (m:Int))/\w'.cell? ⟨wc.heap.size,3,none⟩=some (.string tx)) :=
       fun w' hb=>⟨keep hb c0',keep hb x0,keep hb x1,keep hb x2,keep hb x3⟩
      obtain ⟨lv,hlv⟩:∃ lv,Hid (getK (Zx n s.ks (l.take j)) x=lv):=⟨_,rfl⟩
      have hlen:lv.length<=800000:=by
       have h1:=Qbc (Zx n s.ks (l.take j)) x
       rw [VA n _ hs.rises,List.length_take] at h1
       rw [<- hlv.out];omega
      have hnn:lv=[]->V2 x = .slice none 0 0:=fun e=>h2.keys.nil x (by rw [hlv.out,e])
      have hov:KO wb B (V2 x) lv:=by have:=HK2.out.row x;rw [hlv.out] at this;exact this
      have hBb:B<=wb.heap.size:=by have:=hout.size;have:=hsz2.out;omega
      have hvlt:∀ g,(V2 x).ownBlock=some g->g<wb.heap.size:=fun g hg=>(hov.lt g hg).2
      have hgne:∀ g,(V2 x).ownBlock=some g->g ≠ p/\g ≠ wc.heap.size/\g ≠ mb2:=fun g hg=>⟨h2.n2 x g hg,(by have:=(h2.lt g (h2.keys.mine x g hg).1).2;omega),(h2.keys.mine x g hg).2⟩
      replace hnn:=Lib.hid hnn
      replace hov:=Lib.hid hov
      replace hvlt:=Lib.hid hvlt
      replace hgne:=Lib.hid hgne
      go_wp2
      clear eW2 d0 d1 d2 d3 c1 f1 c0
      have hlk1:=(HK2.out.later (Qb (Below.refl _ wb))).look x hsx
      have hlk2:=(HK2.out.later (Qb (Qc wb (.cells #[.int .u64 (n:Int),.int .i64 z,.int .u64 (m:Int),.string tx] 195)))).look x hsx
      go_region_held3 (fun w'=>w'.cell? ⟨p,0,none⟩=some (.map (some mb2))/\w'.cell? ⟨wc.heap.size,0,none⟩=some (.string x)/\w'.cell? ⟨wc.heap.size,1,none⟩=some (.int .i64 z)/\w'.cell? ⟨wc.heap.size,2,none⟩=some (.int .u64 (m:Int))/\w'.cell? ⟨wc.heap.size,3,none⟩=some (.string tx))
       (first | exact HLK.out _ (Qb (Below.refl _ _)) | exact HLK.out _ (Qb (Qc _ _)) | exact S2 | exact S3)
       (first
        | (go_at_call 152;refine (Qjm lv ⟨n,⟨z,m,tx⟩⟩ B wb.heap.size (V2 x) _ (Qi hov.out (Qb (Qc _ _))) (heap_alloc_new wb _) (fun e=>absurd (hvlt.out _ e) (by omega)) (Nat.le_trans hBb (Qc _ _).size) (by omega) hnn.out).mono ?_;rintro e w2 ⟨v',rfl,hr2,hg2,ho2⟩;have S2:w2.cell? ⟨p,0,none⟩=some (.map (some mb2))/\w2.cell? ⟨wc.heap.size,0,none⟩=some (.string x)/\w2.cell? ⟨wc.heap.size,1,none⟩=some (.int .i64 z)/\w2.cell? ⟨wc.heap.size,2,none⟩=some (.int .u64 (m:Int))/\w2.cell? ⟨wc.heap.size,3,none⟩=some (.string tx):=⟨hg2.cell (keep (Qb (Qc wb _)) c0') (fun e=>(hgne.out _ e.symm).1 rfl),hg2.cell (keep (Qb (Qc wb _)) x0) (fun e=>(hgne.out _ e.symm).2.1 rfl),hg2.cell (keep (Qb (Qc wb _)) x1) (fun e=>(hgne.out _ e.symm).2.1 rfl),hg2.cell (keep (Qb (Qc wb _)) x2) (fun e=>(hgne.out _ e.symm).2.1 rfl),hg2.cell (keep (Qb (Qc wb _)) x3) (fun e=>(hgne.out _ e.symm).2.1 rfl)⟩;obtain ⟨w3,hrun3,hown3,hturn3⟩:=((HK2.out.later (Qb (Qc wb _))).own.kept hg2 (fun e=>(hgne.out _ e.symm).2.2 rfl)).store Vz Tryz.underlying167 (by unfold maxLen;omega) (JV hsx) (val:=v') (d:=.held v') (ps:=[]) rfl;have S3:=QgW hturn3 S2 h2.n1 (by have:=(h2.lt _ h2.keys.hm).2;omega)))
      all_goals
       have HP:=Lib.hid (QN.put h2 (QcN _ hs.rises) (Qa HB2 (Qb (Qc wb _))) (List.cons_ne_nil _ _) hr2 hg2 ho2 hown3 hturn3)
       have HT2:Hid (Jg (Zx n s.ks (l.take j)) x (⟨n,⟨z,m,tx⟩⟩ :: lv)=Zx n s.ks (l.take (j+1))):=by
        show _=_
        have e:l.getD j Zf=l[j]:=by rw [List.getD_eq_getElem?_getD,List.getElem?_eq_getElem hlt];rfl
        rw [List.take_succ_eq_append_getElem hlt,QdK, <- e,HX.out,JU,hlv.out]
       clear hrun3 hlk1 hlk2 S2 S3
       go_wp2
       go_roundw
       case rel =>
        refine ⟨j+1,by omega,by go_num,?_,hout.trans HP.out.2⟩
        have h3:=HP.out.1
        rw [QdN hout.size HP.out.2.size,HT2.out] at h3
        exact h3
       case measure=>simp [intOf];omega
     ·have ej:j=l.length:=by omega
      have HE:Hid (UJ s n l=0/\QH s n l=⟨Zx n s.ks l,n,s.low⟩):=by show _/\_;simp [UJ,QH,HNN.out,hfull.out]
      have HL:=Lib.hid (h2.setLast n)
      have HE2:Hid (l.take j=l):=by show _=_;rw [ej,List.take_length]
      clear hlt
      go_wp2
      go_ret
      refine ⟨Jd HE.out.1,?_,hout.trans ((YA wc p 1 _).mono fun k e=>by rw [e];exact h2.hp)⟩
      rw [HE.out.2]
      have h3:=HL.out
      rw [HE2.out] at h3
      have e1:ext O w (wc.setCell ⟨p,1,none⟩ (.int .u64 (n:Int)))=ext O w wc:=funext fun k=>by simp [ext]
      rw [e1, <- ej]
      exact ⟨mb2,D2,V2,h3⟩
theorem X4 (s:ByteArray) (w:World) (hs:s.size<=maxLen) :
  Calls Tryz.prog 56 #[.string s] w fun e w'=>e = .returned (.bool (Yb s))/\Below w.heap.size w w' :=
 (YK s w hs).mono fun _ _ ⟨he,hw⟩=>⟨he,hw ▸ Below.refl _ _⟩
theorem QbR {l:List Wr} {k:Nat} (hk:k<l.length) (h:KM l k=false):Yv l=false:=Qbz hk h
set_option maxRecDepth 100000 in
set_option maxHeartbeats 8000000 in
theorem Qag (l:List Wr) (A:Option Addr) (ca:Nat) (w:World) (hA:Yf w A l) (hok:Qad l) (hn:l.length<=1000000) :
  Calls Tryz.prog 102 #[.slice A l.length ca] w fun e w'=>e = .returned (.bool (Yv l))/\Below w.heap.size w w':=by
 go_enter Tryz.func102,Tryz.ntmps102
 go_wp2
 go_loopw [3] (fun i wr=>∃ k:Nat,k<=l.length/\i = .int .i64 k/\Hid (ZR l k=true)/\Below w.heap.size w wr) (fun i _=>l.length-(intOf i).toNat)
 case atStart=>exact ⟨0,Nat.zero_le _,rfl,rfl,Below.refl _ _⟩
 case round =>
  obtain ⟨k,hk,rfl,HA,hw⟩:=hrel
  obtain ⟨wb,rfl⟩:∃ wb:World,wb=wr:=⟨_,rfl⟩
  have hr:=hA.later hw
  by_cases hlt:k<l.length
  ·obtain ⟨b,off,x,z,m,tx,rfl,d0,d1,d2,d3,HX⟩:=hr.at' hlt
   have hsx:x.size<=maxLen:=by have:=hok.k k hlt;rw [HX.out] at this;exact this
   have hgg:=hok.v k hlt
   rw [HX.out] at hgg
   have hgb:=hgg.b
   have hgt:=hgg.t
   simp only at hgb hgt
   clear hgg
   have hki:(k:Int)<(l.length:Int):=by omega
   cases hkey:Yb x
   ·have HF:=Lib.hid (QbR hlt (QgU HX.out hkey))
    replace hkey:=Lib.hid hkey
    go_wp2
    have k0:=cell_regrown d0
    have cK:∀ d os,Calls Tryz.prog 56 #[.string x] (grow (redrawn wb d) os) fun e w''=>e = .returned (.bool false)/\∃ p:Regrown,w''=grow (redrawn wb p.d) p.os:=fun d os=>Calls.regrown_of (ZB hkey.out (X4 x _ hsx))
    refine wp_region_quiet_below (by kernel_rfl) (by kernel_rfl) ?_
    repeat (go_big_quiet_step (first | exact cK _ _))
    refine wpQuiet_nil ?_
    intro _ hw'
    obtain ⟨⟨dq,osq⟩,hw''⟩:=hw'
    subst hw''
    have HQ:=below_regrown wb dq osq
    clear k0 cK
    go_wp2
    go_ret
    exact ⟨Y2 HF.out,Qa hw HQ⟩
   ·obtain ⟨fv,hfv⟩:∃ fv,Ze ⟨z,m,tx⟩=fv:=⟨_,rfl⟩
    cases fv
    ·have HF:=Lib.hid (QbR hlt (QgV HX.out hfv))
     replace hkey:=Lib.hid hkey
     replace hfv:=Lib.hid hfv
     go_wp2
     have k0:=cell_regrown d0
     have k1:=cell_regrown d1
     have k2:=cell_regrown d2
     have k3:=cell_regrown d3
     have cK:∀ d os,Calls Tryz.prog 56 #[.string x] (grow (redrawn wb d) os) fun e w''=>e = .returned (.bool true)/\∃ p:Regrown,w''=grow (redrawn wb p.d) p.os:=fun d os=>Calls.regrown_of (ZB hkey.out (X4 x _ hsx))
     have cF:∀ d os,Calls Tryz.prog 57 #[.agg #[.int .i64 z,.int .u64 m,.string tx]] (grow (redrawn wb d) os) fun e w''=>e = .returned (.bool false)/\∃ p:Regrown,w''=grow (redrawn wb p.d) p.os:=fun d os=>Calls.regrown_of (ZB hfv.out (YC z m tx hgb hgt _))
     refine wp_region_quiet_below (by kernel_rfl) (by kernel_rfl) ?_
     repeat (go_big_quiet_step (first | exact cK _ _ | exact cF _ _))
     refine wpQuiet_nil ?_
     intro _ hw'
     obtain ⟨⟨dq,osq⟩,hw''⟩:=hw'
     subst hw''
     have HQ:=below_regrown wb dq osq
     clear k0 k1 k2 k3 cK cF
     go_wp2
     go_ret
     exact ⟨Y2 HF.out,Qa hw HQ⟩
    ·by_cases hk0:k=0
     ·have HR:Hid (ZR l (k+1)=true):=QcO HX.out hkey hfv hk0
      have hg:decide (0<k)=false:=by rw [decide_eq_false_iff_not];omega
      clear hk0
      replace hkey:=Lib.hid hkey
      replace hfv:=Lib.hid hfv
      go_wp2
      have k0:=cell_regrown d0
      have k1:=cell_regrown d1
      have k2:=cell_regrown d2
      have k3:=cell_regrown d3
      have cK:∀ d os,Calls Tryz.prog 56 #[.string x] (grow (redrawn wb d) os) fun e w''=>e = .returned (.bool true)/\∃ p:Regrown,w''=grow (redrawn wb p.d) p.os:=fun d os=>Calls.regrown_of (ZB hkey.out (X4 x _ hsx))
      have cF:∀ d os,Calls Tryz.prog 57 #[.agg #[.int .i64 z,.int .u64 m,.string tx]] (grow (redrawn wb d) os) fun e w''=>e = .returned (.bool true)/\∃ p:Regrown,w''=grow (redrawn wb p.d) p.os:=fun d os=>Calls.regrown_of (ZB hfv.out (YC z m tx hgb hgt _))
      refine wp_region_quiet_below (by kernel_rfl) (by kernel_rfl) ?_
      repeat (go_big_quiet_step (first | exact cK _ _ | exact cF _ _))
      refine wpQuiet_nil ?_
      intro _ hw'
      obtain ⟨⟨dq,osq⟩,hw''⟩:=hw'
      subst hw''
      have HQ:=below_regrown wb dq osq
      clear k0 k1 k2 k3 cK cF
      go_wp2
      go_roundw
      case rel=>exact ⟨k+1,by omega,by go_num,HR,Qa hw HQ⟩
      case measure=>simp [intOf];omega
     ·obtain ⟨b',off',y,z',n',tx',e,e0,_,_,_,HZ⟩:=hr.at' (k:=k-1) (by omega)
      injection e with e
      injection e with f1 f2
      subst f1 f2
      have hg:decide (0<k)=true:=by rw [decide_eq_true_iff];omega
      have hi:((k:Int)-1).toNat=k-1:=by omega
      have hk1:1<=k:=by omega
      have hk1i:(1:Int)<=(k:Int):=by omega
      have hk2i:(k:Int)-1<(l.length:Int):=by omega
      cases hl2:Qy y x
      ·have HF:=Lib.hid (QbR hlt (Qft HX.out HZ.out hk0 hl2))
       have hl':(Op.bytesLess x.toList y.toList || x.toList == y.toList)=true:=UE hl2
       clear hk0 hl2
       replace hkey:=Lib.hid hkey
       replace hfv:=Lib.hid hfv
       go_wp2
       have k0:=cell_regrown d0
       have k1:=cell_regrown d1
       have k2:=cell_regrown d2
       have k3:=cell_regrown d3
       have k4:=cell_regrown e0
       have cK:∀ d os,Calls Tryz.prog 56 #[.string x] (grow (redrawn wb d) os) fun e w''=>e = .returned (.bool true)/\∃ p:Regrown,w''=grow (redrawn wb p.d) p.os:=fun d os=>Calls.regrown_of (ZB hkey.out (X4 x _ hsx))
       have cF:∀ d os,Calls Tryz.prog 57 #[.agg #[.int .i64 z,.int .u64 m,.string tx]] (grow (redrawn wb d) os) fun e w''=>e = .returned (.bool true)/\∃ p:Regrown,w''=grow (redrawn wb p.d) p.os:=fun d os=>Calls.regrown_of (ZB hfv.out (YC z m tx hgb hgt _))
       refine wp_region_quiet_below (by kernel_rfl) (by kernel_rfl) ?_
       repeat (go_big_quiet_step (first | exact cK _ _ | exact cF _ _))
       refine wpQuiet_nil ?_
       intro _ hw'
       obtain ⟨⟨dq,osq⟩,hw''⟩:=hw'
       subst hw''
       have HQ:=below_regrown wb dq osq
       clear k0 k1 k2 k3 k4 cK cF
       go_wp2
       go_ret
       exact ⟨Y2 HF.out,Qa hw HQ⟩
      ·have HR:Hid (ZR l (k+1)=true):=QdR HA.out HX.out HZ.out hkey hfv hl2
       have hl':(Op.bytesLess x.toList y.toList || x.toList == y.toList)=false:=VW hl2
       clear hk0 hl2
       replace hkey:=Lib.hid hkey
       replace hfv:=Lib.hid hfv
       go_wp2
       have k0:=cell_regrown d0
       have k1:=cell_regrown d1
       have k2:=cell_regrown d2
       have k3:=cell_regrown d3
       have k4:=cell_regrown e0
       have cK:∀ d os,Calls Tryz.prog 56 #[.string x] (grow (redrawn wb d) os) fun e w''=>e = .returned (.bool true)/\∃ p:Regrown,w''=grow (redrawn wb p.d) p.os:=fun d os=>Calls.regrown_of (ZB hkey.out (X4 x _ hsx))
       have cF:∀ d os,Calls Tryz.prog 57 #[.agg #[.int .i64 z,.int .u64 m,.string tx]] (grow (redrawn wb d) os) fun e w''=>e = .returned (.bool true)/\∃ p:Regrown,w''=grow (redrawn wb p.d) p.os:=fun d os=>Calls.regrown_of (ZB hfv.out (YC z m tx hgb hgt _))
       refine wp_region_quiet_below (by kernel_rfl) (by kernel_rfl) ?_
       repeat (go_big_quiet_step (first | exact cK _ _ | exact cF _ _))
       refine wpQuiet_nil ?_
       intro _ hw'
       obtain ⟨⟨dq,osq⟩,hw''⟩:=hw'
       subst hw''
       have HQ:=below_regrown wb dq osq
       clear k0 k1 k2 k3 k4 cK cF
       go_wp2
       go_roundw
       case rel=>exact ⟨k+1,by omega,by go_num,HR,Qa hw HQ⟩
       case measure=>simp [intOf];omega
  ·have hfull:Hid (Yv l=true):=by show _=_;rw [Yv,show l.length=k by omega];exact HA.out
   clear HA
   go_wp2
   go_ret
   exact ⟨Y2 hfull.out,hw⟩
theorem Yr {P:Program} {w:World} {ops:Array Oper} {o:Oper} {a:Act} {Q:Exit->Act->World->Prop} {next:Act->World->Prop} (hgd:o.guard=none) (s x:Operand) (t:TypeId)
  (ho:o.op = .call { callee:=.builtin .append,args:=#[s,x],argTypes:=#[t,t] })
  (base:Nat) (e:TypeId) (i:TypeInfo) (z:Value) (size bytes:Nat) (ht:P.underlying t=some (.slice e)) (hi:P.info? e=some i) (hz:i.zero=some z)
  (hsize:i.size=size) (hby:i.bytes=bytes) (hzs:z.cells.size=size) (hsz:0<size)
  (v:Value) (n:Nat) (xs:List Value) (hs:a.eval s=v) (hown:w.ownsRow base e size v n xs)
  (ad:Addr) (m c:Nat) (news:List Value) (hx:a.eval x = .slice (some ad) m c) (hl:news.length=m * size) (hnews:∀ j u,news[j]? = some u->w.cell? (ad.add j)=some u) (h1:∀ u ∈ news,u.oneCell'=true)
  (h63:n+m<=maxLen) (hbytes:(n+m) * bytes<=140737488355328) (hbase:base<=w.heap.size)
  (h:∀ v' w',w'.ownsRow base e size v' (n+m) (xs ++ news)->w.grownBy w' v.ownBlock->(v'.ownBlock=v.ownBlock \/ v'.ownBlock=some w.heap.size)->next (a.put o.dst v') w') :
  if Region.wanted o (yielded ops a.tmps)=true then Oper.wp P o a w next Q else next (a.put o.dst undef) w:=by
 rw [if_pos (by simp [Region.wanted,hgd])]
 obtain ⟨v',w',hr,h2,h3,_,h5⟩:=run_append_own_at (P:=P) w base t o.type e i z size bytes ht hi hz hsize hby hzs hsz v n xs hown ad m c news hl hnews h1 h63 hbytes hbase
 unfold Oper.wp execOp
 simp only [ho,resolve,invoke,builtin,Sem.run_bind,Sem.run_pure,Result.andThen_ok,List.map_toArray,List.map_cons,List.map_nil,hs,hx,hr]
 exact h v' w' h2 h3 h5
theorem ZT {w:World} {base n size:Nat} {e:TypeId} {v:Value} {xs:List Value} (h:w.ownsRow base e size v n xs):∃ A c,v = .slice A n c:=by
 rcases h.2 with ⟨rfl,rfl⟩ | ⟨g,cap,cur,rfl,_⟩
 ·exact ⟨_,_,rfl⟩
 ·exact ⟨_,_,rfl⟩
end Go.Proofs.YtcldpmkhpmlcbaaGreatDoor
