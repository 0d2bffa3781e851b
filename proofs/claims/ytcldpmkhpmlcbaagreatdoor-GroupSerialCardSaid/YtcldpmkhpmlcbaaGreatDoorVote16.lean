/- part -/
import Derived.Test.YtcldpmkhpmlcbaaGreatDoorJ7
set_option linter.unusedVariables false
set_option linter.unusedSimpArgs false
namespace Go.Proofs.YtcldpmkhpmlcbaaGreatDoor
open Go.RowKit Go.Maps Go.Shelf Go.Sort
set_option maxRecDepth 100000 in
set_option maxHeartbeats 2000000 in
theorem QfQ {w:World} {B p N:Nat} {O:Nat->Prop} {s:QR} (h:QW w B p N O s) (hs:Yw s) (hI:(Qq s.ks).length<=800000) (g:Nat) (cg:w.cell? ⟨g,0,none⟩=some (.pointer (some ⟨p,0,none⟩))) (k:ByteArray) (hk:k.size<=maxLen) (n:Nat) :
  Calls Tryz.prog 151 #[.agg #[.string k,.int .u64 (n:Int)],.pointer (some ⟨g,0,none⟩)] w fun e w'=>e = .returned (.bool (!Vb s ⟨k,n⟩))/\Below w.heap.size w w':=by
 obtain ⟨W,eW,HB,c0,c1⟩:=Y5 w (.string k) (.int .u64 (n:Int)) 77
 have HZ:Hid (W.heap.size=w.heap.size+1):=by show _=_;rw [<- eW];simp
 replace h:=h.later HB
 replace cg:=keep HB cg
 obtain ⟨v,hv⟩:∃ v,Hid (KN s k s.last=v):=⟨_,rfl⟩
 have hE:Hid (Qba s s.last=0):=by show _=_;have:=hs.low;rw [Qba,if_neg (by omega)]
 have hVV:Hid (Vb s ⟨k,n⟩=decide (v.num=n)):=by
  show _=_
  have:=hs.low
  rw [Vb, <- hv.out,KN,if_neg (by omega)]
 have hlen:(getK s.ks k).length<=900000:=Nat.le_trans (Qbc _ _) (by omega)
 have HG:Hid (∀ w,QW w B p N O s->Calls Tryz.prog 53 #[.pointer (some ⟨p,0,none⟩),.string k,.int .u64 (s.last:Int)] w (Qcw w v 0)):=fun w hh=>by
  have:=Qfs hh k hk s.last hlen
  rw [hv.out,hE.out] at this
  exact this
 have HH:=Lib.hid h
 have n1:¬ (w.heap.size=W.heap.size):=by have:=HZ.out;omega
 have n2:¬ (W.heap.size=w.heap.size):=by have:=HZ.out;omega
 have n3:¬ (g=W.heap.size):=by have:=Yc cg;have h9:g<W.heap.size:=this;omega
 have n4:¬ (W.heap.size=g):=by have:=Yc cg;have h9:g<W.heap.size:=this;omega
 clear h hlen
 go_enter Tryz.func151,Tryz.ntmps151
 go_wp2
 go_region_held3 (fun w'=>w'.cell? ⟨w.heap.size,0,none⟩=some (.string k)/\w'.cell? ⟨w.heap.size,1,none⟩=some (.int .u64 (n:Int))/\w'.cell? ⟨g,0,none⟩=some (.pointer (some ⟨p,0,none⟩)))
  (first | (with_reducible exact ⟨Qcx c0,Qcx c1,Qcx cg⟩) | (with_reducible exact ⟨Qcx (U7 _ c0),Qcx (U7 _ c1),Qcx (U7 _ cg)⟩) | (with_reducible exact ⟨keep hb2 c0,keep hb2 c1,keep hb2 cg⟩) | (with_reducible exact ⟨U7 _ (keep hb2 c0),U7 _ (keep hb2 c1),U7 _ (keep hb2 cg)⟩) | (with_reducible exact ⟨VN (VN (VN (keep hb2 c0) n1) n1) n1,VN (VN (VN (keep hb2 c1) n1) n1) n1,VN (VN (VN (keep hb2 cg) n3) n3) n3⟩))
  (first
   | (go_at_call 58;refine (Qbd (HH.out.later (by first | exact Qb (Below.refl _ _) | exact Qb (Qc _ _)))).mono ?_;rintro e w2 ⟨rfl,rfl⟩)
   | (go_at_call 53;refine (HG.out _ (HH.out.later (by first | exact Qb (Below.refl _ _) | exact Qb (Qc _ _)))).mono ?_;rintro e w3 ⟨rfl,hb⟩;have hb2:Below W.heap.size W w3:=Qa (by first | exact Qb (Below.refl _ _) | exact Qb (Qc _ _)) hb;(try have Y:=Xf.newd hb);(try (obtain ⟨y0,y1,y2,f0,f1,f2⟩:=Y.facts))))
 all_goals
  have HBB:=Qa HB hb2
  have hs1:=HB.size
  have hs2:=HBB.size
  by_cases hq:v.num=n
  ·have q1:((v.num:Int) != (n:Int))=false:=by simp [hq]
   have HF:Hid ((!Vb s ⟨k,n⟩)=false):=by show _=_;rw [hVV.out,decide_eq_true hq];rfl
   clear hq
   go_wp2
   go_ret
   first | exact ⟨Y2 HF.out,((HBB.setCell hs1 _).setCell hs1 _).setCell hs1 _⟩ | exact ⟨Y2 HF.out,HBB.alloc hs2 _⟩
  ·have q1:((v.num:Int) != (n:Int))=true:=by simp;omega
   have HF:Hid ((!Vb s ⟨k,n⟩)=true):=by show _=_;rw [hVV.out,decide_eq_false hq];rfl
   clear hq
   go_wp2
   go_ret
   first | exact ⟨Y2 HF.out,((HBB.setCell hs1 _).setCell hs1 _).setCell hs1 _⟩ | exact ⟨Y2 HF.out,HBB.alloc hs2 _⟩
structure Qgy (l:List Rd):Prop where
 k:∀ i,i<l.length->(l.getD i XB).key.size<=maxLen
 n:l.length<=1000000
def Qn4 (w:World) (bad:Bool) (e:Ending) (w':World):Prop:=∃ z:Int,e = .returned (.int .i64 z)/\decide (0<=z)=bad/\Below w.heap.size w w'
theorem Qm4 {s:QR} {l:List Rd} {k:Nat} {x:Rd} (hk:k<l.length) (h:l.getD k XB=x) (hx:(!Vb s x)=true):Yj s l=false :=
 Qcu (d:=XB) hk h (by simpa using hx)
set_option maxRecDepth 100000 in
theorem Qn5 {w:World} {B p N:Nat} {O:Nat->Prop} {s:QR} (h:QW w B p N O s) (hs:Yw s) (hI:(Qq s.ks).length<=800000) (g:Nat) (cg:w.cell? ⟨g,0,none⟩=some (.pointer (some ⟨p,0,none⟩))) (l:List Rd) (A:Option Addr) (ca:Nat) (hA:Xj w A l) (hok:Qgy l) :
  Calls Tryz.prog 192 #[.slice A l.length ca,.func (.func 151) #[] #[.pointer (some ⟨g,0,none⟩)]] w (Qn4 w (!Yj s l)):=by
 have hn:=hok.n
 have HH:=Lib.hid h
 clear h
 go_enter Tryz.func192,Tryz.ntmps192
 go_wp2_with fail
 go_loopw [8] (fun i wr=>∃ k:Nat,k<=l.length/\i = .int .i64 k/\Hid ((l.take k).all (Vb s)=true)/\Below w.heap.size w wr) (fun i _=>l.length-(intOf i).toNat)
 case atStart=>exact ⟨0,Nat.zero_le _,rfl,rfl,Below.refl _ _⟩
 case round =>
  obtain ⟨k,hk,rfl,HA,hw⟩:=hrel
  have hr:=hA.later hw
  have cgr:=keep hw cg
  by_cases hlt:k<l.length
  ·obtain ⟨b,off,x,n,rfl,d0,d1,HX⟩:=hr.at' hlt
   have hx:=hok.k k hlt
   rw [HX.out] at hx
   simp only at hx
   cases hv:(!Vb s ⟨x,n⟩)
   ·have HF:Hid ((l.take (k+1)).all (Vb s)=true):=JS hlt HX.out (by simpa using hv) HA.out
    replace hv:=Lib.hid hv
    go_wp2_with (go_at_call 151;refine (Qfx hv.out (QfQ (HH.out.later hw) hs hI g cgr x hx n)).mono ?_;rintro e w1 ⟨rfl,hb⟩;replace hw:=Qa hw hb)
    go_roundw
    case rel=>exact ⟨k+1,by omega,by go_num,HF,hw⟩
    case measure=>simp [intOf];omega
   ·have HF:Hid ((!Yj s l)=true):=by show _=_;rw [Qm4 hlt HX.out hv];rfl
    replace hv:=Lib.hid hv
    go_wp2_with (go_at_call 151;refine (Qfx hv.out (QfQ (HH.out.later hw) hs hI g cgr x hx n)).mono ?_;rintro e w1 ⟨rfl,hb⟩;replace hw:=Qa hw hb)
    go_ret
    exact ⟨_,rfl,by rw [HF.out];simp,hw⟩
  ·have HF:Hid ((!Yj s l)=false):=by show _=_;have:=HA.out;rw [show l.take k=l from List.take_of_length_le (by omega)] at this;rw [Yj,this];rfl
   go_wp2
   go_ret
   exact ⟨_,rfl,by rw [HF.out];simp,hw⟩
set_option maxRecDepth 100000 in
theorem Qn6 {w:World} {B p N:Nat} {O:Nat->Prop} {s:QR} (h:QW w B p N O s) (hs:Yw s) (hI:(Qq s.ks).length<=800000) (g:Nat) (cg:w.cell? ⟨g,0,none⟩=some (.pointer (some ⟨p,0,none⟩))) (l:List Rd) (A:Option Addr) (ca:Nat) (hA:Xj w A l) (hok:Qgy l) :
  Calls Tryz.prog 150 #[.slice A l.length ca,.func (.func 151) #[] #[.pointer (some ⟨g,0,none⟩)]] w fun e w'=>e = .returned (.bool (!Yj s l))/\Below w.heap.size w w':=by
 go_enter Tryz.func150,Tryz.ntmps150
 go_wp2_with (go_at_call 192;refine (Qn5 h hs hI g cg l A ca hA hok).mono ?_;rintro e w1 ⟨z,rfl,hz,hb⟩;replace hz:=Lib.hid hz)
 go_ret
 exact ⟨Y2 hz.out.symm,hb⟩
set_option maxRecDepth 100000 in
theorem Qm5 {w:World} {B p N:Nat} {O:Nat->Prop} {s:QR} (h:QW w B p N O s) (hs:Yw s) (hI:(Qq s.ks).length<=800000) (l:List Rd) (A:Option Addr) (ca:Nat) (hA:Xj w A l) (hok:Qgy l) :
  Calls Tryz.prog 93 #[.pointer (some ⟨p,0,none⟩),.slice A l.length ca] w fun e w'=>e = .returned (.bool (Yj s l))/\Below w.heap.size w w':=by
 obtain ⟨W,eW,HB,c0⟩:=Qot w (.pointer (some ⟨p,0,none⟩)) 100
 have HH:=Lib.hid (h.later HB)
 replace hA:=hA.later HB
 clear h
 go_enter Tryz.func93,Tryz.ntmps93
 go_wp2_with (go_at_call 150;refine (Qn6 HH.out hs hI _ c0 l A ca hA hok).mono ?_;rintro e w1 ⟨rfl,hb⟩)
 go_ret
 exact ⟨Y2 (by simp),Qa HB hb⟩
end Go.Proofs.YtcldpmkhpmlcbaaGreatDoor
