/- part -/
import Derived.Test.YtcldpmkhpmlcbaaGreatDoorJ9
import Derived.Test.YtcldpmkhpmlcbaaGreatDoorJ16
import Derived.Test.YtcldpmkhpmlcbaaGreatDoorJ18
import Derived.Test.YtcldpmkhpmlcbaaGreatDoorJ14
import Derived.Test.YtcldpmkhpmlcbaaGreatDoorJ10
import Derived.Test.YtcldpmkhpmlcbaaGreatDoorJ1
import Derived.Test.YtcldpmkhpmlcbaaGreatDoorJ17
import Derived.Test.YtcldpmkhpmlcbaaGreatDoorJ8
set_option linter.unusedVariables false
set_option linter.unusedSimpArgs false
namespace Go.Proofs.YtcldpmkhpmlcbaaGreatDoor
open Go.RowKit Go.Shelf
theorem QiW:(Tryz.prog.info? 77).map (fun i=>(i.zero,i.size,i.bytes))=some (some (.agg #[.string ByteArray.empty,.int .u64 0]),2,24):=by kernel_rfl
theorem QiX:(Tryz.prog.info? 79).map (fun i=>(i.zero,i.size,i.bytes))=some (some (.agg #[.string ByteArray.empty,.int .i64 0,.int .u64 0,.string ByteArray.empty]),4,48):=by kernel_rfl
theorem Qeo (w:World) (a b a' b' c' d':Value) (t t':TypeId):∃ W:World,(w.alloc (.cells #[a,b] t)).alloc (.cells #[a',b',c',d'] t')=W/\Below w.heap.size w W/\W.cell? ⟨w.heap.size,0,none⟩=some a/\W.cell? ⟨w.heap.size,1,none⟩=some b/\W.cell? ⟨w.heap.size+1,0,none⟩=some a'/\W.cell? ⟨w.heap.size+1,1,none⟩=some b'/\W.cell? ⟨w.heap.size+1,2,none⟩=some c'/\W.cell? ⟨w.heap.size+1,3,none⟩=some d' :=
 ⟨_,rfl,ZL _ _ _,by simp,by simp,by simp,by simp,by simp,by simp⟩
theorem QfR (w:World) (u v:Value) (t:TypeId):∀ (j:Nat) (x:Value),[u,v][j]? = some x->(w.alloc (.cells #[u,v] t)).cell? ((⟨w.heap.size,0,none⟩:Addr).add j)=some x:=by
 intro j x hx
 match j with
 | 0=>simp at hx;subst hx;simp [Addr.add]
 | 1=>simp at hx;subst hx;simp [Addr.add]
 | j+2=>simp at hx
theorem Qep (w:World) (u v y z:Value) (t:TypeId):∀ (j:Nat) (x:Value),[u,v,y,z][j]? = some x->(w.alloc (.cells #[u,v,y,z] t)).cell? ((⟨w.heap.size,0,none⟩:Addr).add j)=some x:=by
 intro j x hx
 match j with
 | 0=>simp at hx;subst hx;simp [Addr.add]
 | 1=>simp at hx;subst hx;simp [Addr.add]
 | 2=>simp at hx;subst hx;simp [Addr.add]
 | 3=>simp at hx;subst hx;simp [Addr.add]
 | j+4=>simp at hx
theorem QcY {s:ByteArray} {n:Nat}:∀ u ∈ [Value.string s,Value.int .u64 n],u.oneCell'=true:=fun u hu=>by
 simp at hu;rcases hu with rfl | rfl <;> rfl
theorem QcZ {s t:ByteArray} {z:Int} {n:Nat}:∀ u ∈ [Value.string s,Value.int .i64 z,Value.int .u64 n,Value.string t],u.oneCell'=true:=fun u hu=>by
 simp at hu;rcases hu with rfl | rfl | rfl | rfl <;> rfl
theorem QfS {c:Ql} {t:Tx} {g:Int} {k:Nat} {s:ByteArray} {n:Nat} (hk:k<t.rds.length) (h:t.rds.getD k XB=⟨s,n⟩) :
  (t.rds.take (k+1)).filter (XL c t g)=(t.rds.take k).filter (XL c t g) ++ if Qn c && Qh t && (QO c s == g) then [⟨s,n⟩] else []:=by
 rw [QcU _ XB _ _ hk,h];rfl
theorem Qeq {c:Ql} {t:Tx} {g:Int} {k:Nat} {s:ByteArray} {v:JQ} (hk:k<t.wrs.length) (h:t.wrs.getD k Zf=⟨s,v⟩) :
  (t.wrs.take (k+1)).filter (XM c t g)=(t.wrs.take k).filter (XM c t g) ++ if Qn c && Qh t && (QO c s == g) then [⟨s,v⟩] else []:=by
 rw [QcU _ Zf _ _ hk,h];rfl
set_option maxRecDepth 100000 in
set_option maxHeartbeats 4000000 in
theorem Qlz (c:Ql) (t:Tx) (g:Int) (A B A' B':Option Addr) (ca cb ca' cb':Nat) (w:World) (h:Z9 w c A B) (ht:QY w t A' B') (hT:XT w) (hn:t.rds.length<=12) :
  Calls Tryz.prog 94 #[.agg #[.slice A c.reps.length ca,.slice B c.bnds.length cb],XA t A' B' ca' cb',.int .i64 g] w (QaS w (Q4 c t g)):=by
 unfold XA
 obtain ⟨W,eW,HB,c0,c1,d0,d1,d2,d3⟩:=Qeo w (.slice A c.reps.length ca) (.slice B c.bnds.length cb) (.int .i64 t.ses) (.int .i64 t.seq) (.slice A' t.rds.length ca') (.slice B' t.wrs.length cb') 25 38
 have h:=h.later HB
 have ht:=ht.later HB
 have hT:=hT.later HB
 obtain ⟨i0,hi,hz0,hz1,hz2⟩:=info_parts QiW
 have HL:Hid (Q4 c t g=(t.rds.take t.rds.length).filter (XL c t g)):=by show _=_;rw [List.take_length];rfl
 have HLN:Hid (∀ k,((t.rds.take k).filter (XL c t g)).length<=k):=fun k=>JF _ _ k
 obtain ⟨fc,hfc⟩:∃ r,Hid (Qn c=r):=⟨_,rfl⟩
 obtain ⟨ft,hft⟩:∃ r,Hid (Qh t=r):=⟨_,rfl⟩
 go_enter Tryz.func94,Tryz.ntmps94
 go_wp2_with fail
 clear eW
 go_loopw [7,13] (fun v i wr=>∃ k:Nat,k<=t.rds.length/\i = .int .i64 k/\Hid (wr.ownsRow W.heap.size 77 2 v ((t.rds.take k).filter (XL c t g)).length (XF ((t.rds.take k).filter (XL c t g))))/\Below W.heap.size W wr) (fun _ i _=>t.rds.length-(intOf i).toNat)
 case atStart=>exact ⟨0,Nat.zero_le _,rfl,Q7 _ _ _ _,Below.refl _ _⟩
 case round =>
  obtain ⟨k,hk,rfl,HO,hw⟩:=hrel
  have hl:=HLN.out k
  by_cases hlt:k<t.rds.length
  ·obtain ⟨b,off,s,n,rfl,e0,e1,HX⟩:=(ht.rds.later hw).at' hlt
   have HT:=Lib.hid (QfS (c:=c) (g:=g) hlt HX.out)
   obtain ⟨wa,ewa,hba,x0,x1⟩:=Y5 wr (.string s) (.int .u64 n) 77
   have c2':=keep hw d2
   have hwa:=Qa hw hba
   replace HO:=Lib.hid (Qi HO.out hba)
   have hr:=h.later hwa
   have htr:=ht.later hwa
   have hTr:=hT.later hwa
   replace c0:=keep hwa c0
   replace c1:=keep hwa c1
   replace d0:=keep hwa d0
   replace d1:=keep hwa d1
   replace d2:=keep hwa d2
   replace d3:=keep hwa d3
   obtain ⟨z,hz⟩:∃ z,Hid (QO c s=z):=⟨_,rfl⟩
   have HZ:Hid ((if Qn c && Qh t && (QO c s == g) then [⟨s,n⟩] else [])=if fc && ft && (z == g) then [(⟨s,n⟩:Rd)] else []):=by show _=_;rw [hfc.out,hft.out,hz.out]
   generalize hL:((t.rds.take k).filter (XL c t g))=L at *
   have hLk:L.length<=12:=by omega
   clear hL
   cases fc
   ·go_wp2_with (go_at_call 37;refine (Qu hfc.out (Yk c A B ca cb _ hr)).mono ?_;rintro e w1 ⟨rfl,hb⟩;replace HO:=Lib.hid (Qi HO.out hb);replace hwa:=Qa hwa hb;clear hb)
    go_roundw
    case rel=>exact ⟨k+1,by omega,by go_num,by show World.ownsRow _ _ _ _ _ _ _;rw [HT.out,HZ.out];simpa using HO.out,hwa⟩
    case measure=>simp [intOf];omega
   ·cases ft
    ·go_wp2_with (first
      | (go_at_call 37;refine (Qu hfc.out (Yk c A B ca cb _ hr)).mono ?_;rintro e w1 ⟨rfl,hb⟩;replace HO:=Lib.hid (Qi HO.out hb);replace hwa:=Qa hwa hb;replace htr:=htr.later hb;replace hTr:=hTr.later hb;replace d0:=keep hb d0;replace d1:=keep hb d1;replace d2:=keep hb d2;replace d3:=keep hb d3;clear hb)
      | (go_at_call 81;refine (Qu hft.out (YM t _ _ _ _ _ htr hTr)).mono ?_;rintro e w2 ⟨rfl,hb⟩;replace HO:=Lib.hid (Qi HO.out hb);replace hwa:=Qa hwa hb;clear hb))
     go_roundw
     case rel=>exact ⟨k+1,by omega,by go_num,by show World.ownsRow _ _ _ _ _ _ _;rw [HT.out,HZ.out];simpa using HO.out,hwa⟩
     case measure=>simp [intOf];omega
    ·cases hzg:z == g
     ·go_wp2_with (first
       | (go_at_call 37;refine (Qu hfc.out (Yk c A B ca cb _ hr)).mono ?_;rintro e w1 ⟨rfl,hb⟩;replace HO:=Lib.hid (Qi HO.out hb);replace hwa:=Qa hwa hb;replace htr:=htr.later hb;replace hr:=hr.later hb;replace hTr:=hTr.later hb;replace c0:=keep hb c0;replace c1:=keep hb c1;replace d0:=keep hb d0;replace d1:=keep hb d1;replace d2:=keep hb d2;replace d3:=keep hb d3;replace x0:=keep hb x0;clear hb)
       | (go_at_call 81;refine (Qu hft.out (YM t _ _ _ _ _ htr hTr)).mono ?_;rintro e w2 ⟨rfl,hb⟩;replace HO:=Lib.hid (Qi HO.out hb);replace hwa:=Qa hwa hb;replace hr:=hr.later hb;replace c0:=keep hb c0;replace c1:=keep hb c1;replace x0:=keep hb x0;clear hb)
       | (go_at_call 52;refine (JR hz.out (VC c s A B ca cb _ hr)).mono ?_;rintro e w3 ⟨rfl,hb⟩;replace HO:=Lib.hid (Qi HO.out hb);replace hwa:=Qa hwa hb;clear hb))
      go_roundw
      case rel=>exact ⟨k+1,by omega,by go_num,by show World.ownsRow _ _ _ _ _ _ _;rw [HT.out,HZ.out];simpa [hzg] using HO.out,hwa⟩
      case measure=>simp [intOf];omega
     ·go_wp2_with (first
       | (go_at_call 37;refine (Qu hfc.out (Yk c A B ca cb _ hr)).mono ?_;rintro e w1 ⟨rfl,hb⟩;replace HO:=Lib.hid (Qi HO.out hb);replace hwa:=Qa hwa hb;replace htr:=htr.later hb;replace hr:=hr.later hb;replace hTr:=hTr.later hb;replace c0:=keep hb c0;replace c1:=keep hb c1;replace d0:=keep hb d0;replace d1:=keep hb d1;replace d2:=keep hb d2;replace d3:=keep hb d3;replace x0:=keep hb x0;replace x1:=keep hb x1;clear hb)
       | (go_at_call 81;refine (Qu hft.out (YM t _ _ _ _ _ htr hTr)).mono ?_;rintro e w2 ⟨rfl,hb⟩;replace HO:=Lib.hid (Qi HO.out hb);replace hwa:=Qa hwa hb;replace hr:=hr.later hb;replace c0:=keep hb c0;replace c1:=keep hb c1;replace x0:=keep hb x0;replace x1:=keep hb x1;clear hb)
       | (go_at_call 52;refine (JR hz.out (VC c s A B ca cb _ hr)).mono ?_;rintro e w3 ⟨rfl,hb⟩;replace HO:=Lib.hid (Qi HO.out hb);replace hwa:=Qa hwa hb;replace x0:=keep hb x0;replace x1:=keep hb x1;clear hb)
       | (at_builtin;refine wpList_append_own _ rfl _ _ 35 rfl W.heap.size 77 i0 (.agg #[.string Qt,.int .u64 0]) 2 24 Tryz.underlying35 hi hz0 hz1 hz2 rfl (by decide) _ _ _ rfl (Qi HO.out (Qc _ _)) ⟨w3.heap.size,0,none⟩ 1 1 [.string s,.int .u64 n] rfl rfl (QfR _ _ _ _) QcY (QA (by omega)) (by omega) (Nat.le_trans hwa.size (Qc _ _).size) ?_;intro v3 w4 HO3 hg3 _;replace hwa:=QX (Qa hwa (Qc _ _)) (Nat.le_refl _) (Qi HO.out (Qc _ _)) hg3;replace HO3:=Lib.hid HO3;clear hg3))
      go_roundw
      case rel=>exact ⟨k+1,by omega,by go_num,by show World.ownsRow _ _ _ _ _ _ _;rw [HT.out,HZ.out,hzg];simpa [QbU] using HO3.out,hwa⟩
      case measure=>simp [intOf];omega
  ·have ek:k=t.rds.length:=by omega
   go_wp2
   go_ret
   have:=HO.out
   rw [ek, <- HL.out] at this
   obtain ⟨A',cap',rfl,_,hI,hF⟩:=Qcz this
   exact ⟨A',cap',rfl,hI,Qa HB hw,fun a e=>Nat.le_trans HB.size (hF a e)⟩
set_option maxRecDepth 100000 in
set_option maxHeartbeats 4000000 in
theorem QjW (c:Ql) (t:Tx) (g:Int) (A B A' B':Option Addr) (ca cb ca' cb':Nat) (w:World) (h:Z9 w c A B) (ht:QY w t A' B') (hT:XT w) (hn:t.wrs.length<=12) :
  Calls Tryz.prog 98 #[.agg #[.slice A c.reps.length ca,.slice B c.bnds.length cb],XA t A' B' ca' cb',.int .i64 g] w (QaT w (Qr c t g)):=by
 unfold XA
 obtain ⟨W,eW,HB,c0,c1,d0,d1,d2,d3⟩:=Qeo w (.slice A c.reps.length ca) (.slice B c.bnds.length cb) (.int .i64 t.ses) (.int .i64 t.seq) (.slice A' t.rds.length ca') (.slice B' t.wrs.length cb') 25 38
 have h:=h.later HB
 have ht:=ht.later HB
 have hT:=hT.later HB
 obtain ⟨i0,hi,hz0,hz1,hz2⟩:=info_parts QiX
 have HL:Hid (Qr c t g=(t.wrs.take t.wrs.length).filter (XM c t g)):=by show _=_;rw [List.take_length];rfl
 have HLN:Hid (∀ k,((t.wrs.take k).filter (XM c t g)).length<=k):=fun k=>JF _ _ k
 obtain ⟨fc,hfc⟩:∃ r,Hid (Qn c=r):=⟨_,rfl⟩
 obtain ⟨ft,hft⟩:∃ r,Hid (Qh t=r):=⟨_,rfl⟩
 go_enter Tryz.func98,Tryz.ntmps98
 go_wp2_with fail
 clear eW
 go_loopw [7,13] (fun v i wr=>∃ k:Nat,k<=t.wrs.length/\i = .int .i64 k/\Hid (wr.ownsRow W.heap.size 79 4 v ((t.wrs.take k).filter (XM c t g)).length (Xc ((t.wrs.take k).filter (XM c t g))))/\Below W.heap.size W wr) (fun _ i _=>t.wrs.length-(intOf i).toNat)
 case atStart=>exact ⟨0,Nat.zero_le _,rfl,Q7 _ _ _ _,Below.refl _ _⟩
 case round =>
  obtain ⟨k,hk,rfl,HO,hw⟩:=hrel
  have hl:=HLN.out k
  by_cases hlt:k<t.wrs.length
  ·obtain ⟨b,off,s,zz,n,x,rfl,e0,e1,e2,e3,HX⟩:=(ht.wrs.later hw).at' hlt
   have HT:=Lib.hid (Qeq (c:=c) (g:=g) hlt HX.out)
   obtain ⟨wa,ewa,hba,x0,x1,x2,x3⟩:=QeS wr (.string s) (.int .i64 zz) (.int .u64 n) (.string x) 79
   have c3':=keep hw d3
   have hwa:=Qa hw hba
   replace HO:=Lib.hid (Qi HO.out hba)
   have hr:=h.later hwa
   have htr:=ht.later hwa
   have hTr:=hT.later hwa
   replace c0:=keep hwa c0
   replace c1:=keep hwa c1
   replace d0:=keep hwa d0
   replace d1:=keep hwa d1
   replace d2:=keep hwa d2
   replace d3:=keep hwa d3
   obtain ⟨z,hz⟩:∃ z,Hid (QO c s=z):=⟨_,rfl⟩
   have HZ:Hid ((if Qn c && Qh t && (QO c s == g) then [⟨s,⟨zz,n,x⟩⟩] else [])=if fc && ft && (z == g) then [(⟨s,⟨zz,n,x⟩⟩:Wr)] else []):=by show _=_;rw [hfc.out,hft.out,hz.out]
   generalize hL:((t.wrs.take k).filter (XM c t g))=L at *
   have hLk:L.length<=12:=by omega
   clear hL
   cases fc
   ·go_wp2_with (go_at_call 37;refine (Qu hfc.out (Yk c A B ca cb _ hr)).mono ?_;rintro e w1 ⟨rfl,hb⟩;replace HO:=Lib.hid (Qi HO.out hb);replace hwa:=Qa hwa hb;clear hb)
    go_roundw
    case rel=>exact ⟨k+1,by omega,by go_num,by show World.ownsRow _ _ _ _ _ _ _;rw [HT.out,HZ.out];simpa using HO.out,hwa⟩
    case measure=>simp [intOf];omega
   ·cases ft
    ·go_wp2_with (first
      | (go_at_call 37;refine (Qu hfc.out (Yk c A B ca cb _ hr)).mono ?_;rintro e w1 ⟨rfl,hb⟩;replace HO:=Lib.hid (Qi HO.out hb);replace hwa:=Qa hwa hb;replace htr:=htr.later hb;replace hTr:=hTr.later hb;replace d0:=keep hb d0;replace d1:=keep hb d1;replace d2:=keep hb d2;replace d3:=keep hb d3;clear hb)
      | (go_at_call 81;refine (Qu hft.out (YM t _ _ _ _ _ htr hTr)).mono ?_;rintro e w2 ⟨rfl,hb⟩;replace HO:=Lib.hid (Qi HO.out hb);replace hwa:=Qa hwa hb;clear hb))
     go_roundw
     case rel=>exact ⟨k+1,by omega,by go_num,by show World.ownsRow _ _ _ _ _ _ _;rw [HT.out,HZ.out];simpa using HO.out,hwa⟩
     case measure=>simp [intOf];omega
    ·cases hzg:z == g
     ·go_wp2_with (first
       | (go_at_call 37;refine (Qu hfc.out (Yk c A B ca cb _ hr)).mono ?_;rintro e w1 ⟨rfl,hb⟩;replace HO:=Lib.hid (Qi HO.out hb);replace hwa:=Qa hwa hb;replace htr:=htr.later hb;replace hr:=hr.later hb;replace hTr:=hTr.later hb;replace c0:=keep hb c0;replace c1:=keep hb c1;replace d0:=keep hb d0;replace d1:=keep hb d1;replace d2:=keep hb d2;replace d3:=keep hb d3;replace x0:=keep hb x0;clear hb)
       | (go_at_call 81;refine (Qu hft.out (YM t _ _ _ _ _ htr hTr)).mono ?_;rintro e w2 ⟨rfl,hb⟩;replace HO:=Lib.hid (Qi HO.out hb);replace hwa:=Qa hwa hb;replace hr:=hr.later hb;replace c0:=keep hb c0;replace c1:=keep hb c1;replace x0:=keep hb x0;clear hb)
       | (go_at_call 52;refine (JR hz.out (VC c s A B ca cb _ hr)).mono ?_;rintro e w3 ⟨rfl,hb⟩;replace HO:=Lib.hid (Qi HO.out hb);replace hwa:=Qa hwa hb;clear hb))
      go_roundw
      case rel=>exact ⟨k+1,by omega,by go_num,by show World.ownsRow _ _ _ _ _ _ _;rw [HT.out,HZ.out];simpa [hzg] using HO.out,hwa⟩
      case measure=>simp [intOf];omega
     ·go_wp2_with (first
       | (go_at_call 37;refine (Qu hfc.out (Yk c A B ca cb _ hr)).mono ?_;rintro e w1 ⟨rfl,hb⟩;replace HO:=Lib.hid (Qi HO.out hb);replace hwa:=Qa hwa hb;replace htr:=htr.later hb;replace hr:=hr.later hb;replace hTr:=hTr.later hb;replace c0:=keep hb c0;replace c1:=keep hb c1;replace d0:=keep hb d0;replace d1:=keep hb d1;replace d2:=keep hb d2;replace d3:=keep hb d3;replace x0:=keep hb x0;replace x1:=keep hb x1;replace x2:=keep hb x2;replace x3:=keep hb x3;clear hb)
       | (go_at_call 81;refine (Qu hft.out (YM t _ _ _ _ _ htr hTr)).mono ?_;rintro e w2 ⟨rfl,hb⟩;replace HO:=Lib.hid (Qi HO.out hb);replace hwa:=Qa hwa hb;replace hr:=hr.later hb;replace c0:=keep hb c0;replace c1:=keep hb c1;replace x0:=keep hb x0;replace x1:=keep hb x1;replace x2:=keep hb x2;replace x3:=keep hb x3;clear hb)
       | (go_at_call 52;refine (JR hz.out (VC c s A B ca cb _ hr)).mono ?_;rintro e w3 ⟨rfl,hb⟩;replace HO:=Lib.hid (Qi HO.out hb);replace hwa:=Qa hwa hb;replace x0:=keep hb x0;replace x1:=keep hb x1;replace x2:=keep hb x2;replace x3:=keep hb x3;clear hb)
       | (at_builtin;refine wpList_append_own _ rfl _ _ 36 rfl W.heap.size 79 i0 (.agg #[.string Qt,.int .i64 0,.int .u64 0,.string Qt]) 4 48 Tryz.underlying36 hi hz0 hz1 hz2 rfl (by decide) _ _ _ rfl (Qi HO.out (Qc _ _)) ⟨w3.heap.size,0,none⟩ 1 1 [.string s,.int .i64 zz,.int .u64 n,.string x] rfl rfl (Qep _ _ _ _ _ _) QcZ (QA (by omega)) (by omega) (Nat.le_trans hwa.size (Qc _ _).size) ?_;intro v3 w4 HO3 hg3 _;replace hwa:=QX (Qa hwa (Qc _ _)) (Nat.le_refl _) (Qi HO.out (Qc _ _)) hg3;replace HO3:=Lib.hid HO3;clear hg3))
      go_roundw
      case rel=>exact ⟨k+1,by omega,by go_num,by show World.ownsRow _ _ _ _ _ _ _;rw [HT.out,HZ.out,hzg];simpa [QbV] using HO3.out,hwa⟩
      case measure=>simp [intOf];omega
  ·have ek:k=t.wrs.length:=by omega
   go_wp2
   go_ret
   have:=HO.out
   rw [ek, <- HL.out] at this
   obtain ⟨A',cap',rfl,_,hI,hF⟩:=QcA this
   exact ⟨A',cap',rfl,hI,Qa HB hw,fun a e=>Nat.le_trans HB.size (hF a e)⟩
def Zr (c:Ql) (g:Int) (m:Qk) (a:Q2):Qk:=if a.k=1 then Zl c g m a.t else if a.k=2 \/ a.k=3 then Zm g m a.k ⟨a.is,a.iq⟩ a.g a.st a.y else m
def Yt (c:Ql) (g:Int) (m:Qk) (a:Q2):List Qv:=if a.k=1 then Z6 c g m a.t else []
def Q5 (c:Ql) (g:Int) (m:Qk) (a:Q2):Qk:=if ZX a then (ZU c g ((Zr c g m a).q.l.length+1) (Zr c g m a)).1 else m
def Zs (c:Ql) (g:Int) (m:Qk) (a:Q2):List Qv:=if ZX a then Yt c g m a ++ (ZU c g ((Zr c g m a).q.l.length+1) (Zr c g m a)).2 else []
structure QnA (a:Q2):Prop where
 k:a.k=0 \/ a.k=1 \/ a.k=2 \/ a.k=3
 t:a.k=1->Qh a.t=true
 id:a.k=2 \/ a.k=3->idB a.is a.iq=true/\(0<=a.g/\a.g<4)
 st:a.k=2 \/ a.k=3->a.st<9223372036854775808
theorem Jk {a:Q2} (h:ZX a=true):QnA a:=by
 unfold ZX at h
 split at h
 ·rename_i e
  have e:a.k=0:=by simpa using e
  exact ⟨.inl e,fun q=>by omega,fun q=>by omega,fun q=>by omega⟩
 ·split at h
  ·rename_i e
   have e:a.k=1:=by simpa using e
   simp only [Bool.and_eq_true] at h
   exact ⟨.inr (.inl e),fun _=>h.1,fun q=>by omega,fun q=>by omega⟩
  ·split at h
   ·rename_i e
    have e:a.k=2:=by simpa using e
    simp only [Bool.and_eq_true,decide_eq_true_eq,J5] at h
    refine ⟨.inr (.inr (.inl e)),fun q=>by omega,fun _=>⟨h.1.1.1.1,h.1.2⟩,fun _=>?_⟩
    have:=h.1.1.2
    omega
   ·split at h
    ·rename_i e
     have e:a.k=3:=by simpa using e
     simp only [Bool.and_eq_true,decide_eq_true_eq,J5] at h
     refine ⟨.inr (.inr (.inr e)),fun q=>by omega,fun _=>⟨h.1.1,h.1.2⟩,fun _=>?_⟩
     have h2:=h.2
     simp only [XP,Bool.and_eq_true,beq_iff_eq] at h2
     have:=h2.1.1.2
     omega
    ·cases h
section
variable {c:Ql} {g:Int} {n:Nat} {m:Qk}
theorem K3 (h:Zd c g n m) {a:Q2} (ha:QnA a):Zd c g (n+1) (Zr c g m a):=by
 unfold Zr
 split
 ·rename_i e;exact Qam h (ha.t e)
 ·split
  ·rename_i e
   have:=ha.st e
   exact (Qdv h a.k ⟨a.is,a.iq⟩ a.g (by omega) a.y).more (Nat.le_succ _)
  ·exact h.more (Nat.le_succ _)
theorem QlA (h:Zd c g n m) (a:Q2):Zd c g (n+1) (Q5 c g m a):=by
 unfold Q5
 split
 ·rename_i hf
  exact QiU _ (K3 h (Jk hf))
 ·exact h.more (Nat.le_succ _)
def ZC (m m':Qk):Prop:=∀ i d,Qe m.dc i=some d->Qe m'.dc i=some d
def Zw (m:Qk) (os:List Qv):Prop:=∀ o ∈ os,o.kind=4->o.dst = -1/\Qe m.dc o.id=some (o.yes,o.stamp)
theorem ZC.refl (m:Qk):ZC m m:=fun _ _ h=>h
theorem ZC.trans {a b d:Qk} (h:ZC a b) (h':ZC b d):ZC a d:=fun i x e=>h' i x (h i x e)
theorem Zw.later {a b:Qk} {os:List Qv} (h:Zw a os) (hk:ZC a b):Zw b os:=fun o ho e=>⟨(h o ho e).1,hk _ _ (h o ho e).2⟩
theorem Zw.append {a:Qk} {os os':List Qv} (h:Zw a os) (h':Zw a os'):Zw a (os ++ os'):=fun o ho=>by
 rcases List.mem_append.1 ho with ho | ho
 ·exact h o ho
 ·exact h' o ho
theorem Zw.nil (a:Qk):Zw a []:=fun o ho=>by cases ho
theorem Qb4 {m:Qk} {gs:List Int} {k:Int} {i:Qp} {s:Nat} {y:Bool} (hk:k ≠ 4):Zw m (Zb g gs k i s y):=by
 intro o ho e
 obtain ⟨h,_,rfl⟩:=List.mem_map.1 ho
 exact absurd e hk
theorem Qer {m:Qk} {q:QD} {i:Qp} {w:Zj}:Zw m (YQ g q i w):=by
 unfold YQ
 refine Zw.append (Qb4 (by decide)) ?_
 split
 ·exact Qb4 (by decide)
 ·exact Zw.nil _
theorem QjX {t:Tx}:ZC m (Zl c g m t)/\Zw (Zl c g m t) (Z6 c g m t):=by
 have hk:ZC m (Zl c g m t):=by
  unfold Zl
  split
  ·exact fun i d e=>e
  ·exact ZC.refl _
 refine ⟨hk,?_⟩
 unfold Z6
 split
 ·rename_i hW
  have hd:(Qe m.dc (Qd t)).isSome=true:=by
   unfold Ye at hW
   split at hW;· cases hW
   split at hW
   ·assumption
   ·repeat' split at hW
    all_goals cases hW
  obtain ⟨d,hd⟩:=Option.isSome_iff_exists.1 hd
  intro o ho _
  rw [List.mem_singleton] at ho
  subst ho
  refine ⟨rfl,hk _ _ ?_⟩
  rw [Kc,hd]
  rfl
 ·exact Qer
 ·exact Qer
 ·exact Zw.nil _
theorem QjY {k:Int} {i:Qp} {h:Int} {s:Nat} {y:Bool}:ZC m (Zm g m k i h s y):=by
 unfold Zm
 repeat' split
 all_goals exact fun i d e=>e
theorem Qm6 (m:Qk) (final:Nat) (ws:List Wr):(Zq m final ws).dc=m.dc:=by
 unfold Zq
 simp only
 split <;> rfl
theorem QlB (h:Zd c g n m):ZC m (ZZ c g m).2.1/\Zw (ZZ c g m).2.1 (ZZ c g m).2.2:=by
 unfold ZZ
 split
 ·exact ⟨ZC.refl _,Zw.nil _⟩
 ·rename_i i final hn
  obtain ⟨v,hv,hw,hok⟩:=Y3 h hn
  have hno:Qe m.dc i=none:=by
   cases e:Qe m.dc i with
   | none=>rfl
   | some d =>
    have:=h.dis i (by rw [e];rfl)
    rw [hv] at this;cases this
  have hvo:∀ m':Qk,Zw m' (YW c g m i v):=fun m'=>by
   unfold YW
   split
   ·exact Zw.nil _
   ·exact Qb4 (by decide)
  simp only
  rw [hw]
  split
  ·have hk:ZC m (ZY m i (Zk v.gs.length (QF c g m v)) final):=fun j d e=>by
    show Qe (Qs m.dc i _) j=some d
    rw [Qw]
    by_cases ej:j=i
    ·subst ej;rw [hno] at e;cases e
    ·rw [if_neg ej];exact e
   have hs:Qe (ZY m i (Zk v.gs.length (QF c g m v)) final).dc i=some (Zk v.gs.length (QF c g m v),final):=by
    show Qe (Qs m.dc i _) i=_
    rw [Qw,if_pos rfl]
   have hmid:ZC (ZY m i (Zk v.gs.length (QF c g m v)) final) (if (Zk v.gs.length (QF c g m v) && !(Qr c v.t g).isEmpty)=true then Zq (ZY m i (Zk v.gs.length (QF c g m v)) final) final (Qr c v.t g) else ZY m i (Zk v.gs.length (QF c g m v)) final):=by
    split
    ·intro j d e;rw [Qm6];exact e
    ·exact ZC.refl _
   refine ⟨hk.trans hmid,Zw.append (hvo _) ?_⟩
   intro o ho _
   rw [List.mem_singleton] at ho
   subst ho
   exact ⟨rfl,hmid _ _ hs⟩
  ·exact ⟨fun j d e=>e,hvo _⟩
theorem Qhw:∀ (k:Nat) {m:Qk},Zd c g n m->ZC m (ZU c g k m).1/\Zw (ZU c g k m).1 (ZU c g k m).2
 | 0,m,h=>⟨ZC.refl _,Zw.nil _⟩
 | k+1,m,h=>by
  obtain ⟨h1,h2⟩:=QlB h
  have h3:=(XW h).1
  unfold ZU
  simp only
  split
  ·obtain ⟨h4,h5⟩:=Qhw k h3
   exact ⟨h1.trans h4,(h2.later h4).append h5⟩
  ·exact ⟨h1,h2⟩
theorem QjZ (h:Zd c g n m) (a:Q2):ZC m (Q5 c g m a)/\Zw (Q5 c g m a) (Zs c g m a):=by
 unfold Q5 Zs
 split
 ·rename_i hf
  have h1:=K3 h (Jk hf)
  obtain ⟨h2,h3⟩:=Qhw ((Zr c g m a).q.l.length+1) h1
  have h4:ZC m (Zr c g m a)/\Zw (Zr c g m a) (Yt c g m a):=by
   unfold Zr Yt
   split
   ·exact QjX
   ·split
    ·exact ⟨QjY,Zw.nil _⟩
    ·exact ⟨ZC.refl _,Zw.nil _⟩
  exact ⟨h4.1.trans h2,(h4.2.later h2).append h3⟩
 ·exact ⟨ZC.refl _,Zw.nil _⟩
theorem Qap {gs:List Int} {k:Int} {i:Qp} {s:Nat} {y:Bool}:(Zb g gs k i s y).length<=gs.length:=by
 unfold Zb
 rw [List.length_map]
 exact List.length_filter_le _ _
theorem QfT {q:QD} {i:Qp} {w:Zj}:(YQ g q i w).length<=2 * w.gs.length:=by
 unfold YQ
 rw [List.length_append]
 have h1:=Qap (g:=g) (gs:=w.gs) (k:=2) (i:=i) (s:=(Zo q i).own) (y:=false)
 have h2:=Qap (g:=g) (gs:=w.gs) (k:=3) (i:=i) (s:=0) (y:=Zh w.vs g)
 split
 ·omega
 ·simp only [List.length_nil];omega
theorem Qes (h:Zd c g n m) {t:Tx}:(Z6 c g m t).length<=8:=by
 have h4:=(XO (t:=t) h.cf).2.2
 have h5:=ZI h.cf
 unfold Z6
 split
 ·simp
 ·rename_i hW
  have hd:(Qe m.wt (Qd t)).isSome=true:=by
   unfold Ye at hW
   split at hW;· cases hW
   split at hW;· cases hW
   split at hW
   ·assumption
   ·split at hW <;> cases hW
  obtain ⟨v,hv⟩:=Option.isSome_iff_exists.1 hd
  have:=QfT (g:=g) (q:=m.q) (i:=Qd t) (w:=ZD m (Qd t))
  rw [show ZD m (Qd t)=v by rw [ZD,hv];rfl] at this ⊢
  have:=(h.w _ v hv).four h.cf
  omega
 ·have:=QfT (g:=g) (q:=QG m.q (Qd t) (Qf c t)) (i:=Qd t) (w:=⟨t,Qf c t,[]⟩)
  simp only at this
  omega
 ·simp
theorem Qhx (h:Zd c g n m):(ZZ c g m).2.2.length<=5:=by
 unfold ZZ
 split
 ·simp
 ·rename_i i final hn
  obtain ⟨v,hv,hw,hok⟩:=Y3 h hn
  have h4:=hok.four h.cf
  have hvo:(YW c g m i v).length<=4:=by
   unfold YW
   split
   ·simp
   ·have:=Qap (g:=g) (gs:=v.gs) (k:=3) (i:=i) (s:=0) (y:=Yj m.s (Q4 c v.t g));omega
  simp only
  rw [hw]
  split
  ·rw [List.length_append,List.length_singleton];omega
  ·show (YW c g m i v).length<=5;omega
theorem QiY:∀ (k:Nat) {m:Qk},Zd c g n m->(ZU c g k m).2.length<=5 * k
 | 0,m,h=>Nat.le_refl _
 | k+1,m,h=>by
  have h1:=Qhx h
  have h3:=(XW h).1
  unfold ZU
  simp only
  split
  ·have:=QiY k h3
   rw [List.length_append];omega
  ·show (ZZ c g m).2.2.length<=_;omega
theorem Qbm (h:Zd c g n m) (a:Q2):(Zs c g m a).length<=5 * n+20:=by
 unfold Zs
 split
 ·rename_i hf
  have h1:=K3 h (Jk hf)
  have h2:=QiY ((Zr c g m a).q.l.length+1) h1
  have h3:=h1.cnt
  have h4:(Yt c g m a).length<=8:=by
   unfold Yt
   split
   ·exact Qes h
   ·simp
  rw [List.length_append]
  omega
 ·simp
end
open Go.Maps
theorem Qj0 (l:List Q0) (n:Nat):Z3 l n=Yg \/ Z3 l n ∈ l:=by
 rw [Z3]
 cases hf:l.find? fun v=>decide (v.num<=n) with
 | none=>exact .inl rfl
 | some u=>exact .inr (List.mem_of_find?_eq_some hf)
def QcF (x:Rd):Bool:=decide (x.key.size<=1000)
def Vi (t:Tx):Bool:=decide (t.rds.length<=12) && decide (t.wrs.length<=12) && t.rds.all QcF && t.wrs.all Qa3
set_option maxRecDepth 100000 in
set_option maxHeartbeats 2000000 in
theorem QlC (t:Tx) (A B:Option Addr) (ca cb:Nat) (w:World) (h:QY w t A B) :
  Calls Tryz.prog 21 #[XA t A B ca cb] w fun e w'=>e = .returned (.bool (Vi t))/\Below w.heap.size w w':=by
 unfold XA
 obtain ⟨W,eW,HB,c0,c1,c2,c3⟩:=QeS w (.int .i64 t.ses) (.int .i64 t.seq) (.slice A t.rds.length ca) (.slice B t.wrs.length cb) 38
 have h:=h.later HB
 have hrn:=h.rn
 have hwn:=h.wn
 by_cases hn:t.rds.length<=12
 ·by_cases hm:t.wrs.length<=12
  ·have q0:decide ((12:Int)<(t.rds.length:Int))=false:=by rw [decide_eq_false_iff_not];omega
   have q1:decide ((12:Int)<(t.wrs.length:Int))=false:=by rw [decide_eq_false_iff_not];omega
   replace hn:=Lib.hid hn
   replace hm:=Lib.hid hm
   go_enter Tryz.func21,Tryz.ntmps21
   go_wp2_with fail
   clear eW q0 q1
   go_loopw [3] (fun i wr=>∃ k:Nat,k<=t.rds.length/\i = .int .i64 k/\Hid ((t.rds.take k).all QcF=true)/\Below W.heap.size W wr) (fun i _=>t.rds.length-(intOf i).toNat)
   case atStart=>exact ⟨0,Nat.zero_le _,rfl,rfl,Below.refl _ _⟩
   case round =>
    obtain ⟨k,hk,rfl,HA,hw⟩:=hrel
    have hB:=Qa HB hw
    replace c2:=keep hw c2
    replace c3:=keep hw c3
    by_cases hlt:k<t.rds.length
    ·obtain ⟨p,off,s,n,rfl,d0,d1,HX⟩:=(h.later hw).rds.at' (k:=k) hlt
     have hki:(k:Int)<t.rds.length:=by omega
     by_cases hb:1000<s.size
     ·have HF:Hid (Vi t=false):=by show _=_;rw [Vi,Qcu hlt HX.out (by simp [QcF];omega)];simp
      go_wp2
      go_ret
      exact ⟨Qm HF.out,hB⟩
     ·have HR:Hid ((t.rds.take (k+1)).all QcF=true):=JS hlt HX.out (by simp [QcF];omega) HA.out
      go_wp2
      go_roundw
      case rel=>exact ⟨k+1,by omega,by go_num,HR,hw⟩
      case measure=>simp [intOf];omega
    ·have ek:k=t.rds.length:=by omega
     have HR:Hid (t.rds.all QcF=true):=by show _=_;have:=HA.out;rw [ek,List.take_length] at this;exact this
     clear ek HA
     go_wp2_with fail
     obtain ⟨wa,rfl⟩:∃ wa:World,wa=wr:=⟨_,rfl⟩
     have HR1:=Lib.hid HR.out
     clear HR
     replace h:=h.later hw
     replace HB:=Qa HB hw
     clear hw hB
     go_loopw [4] (fun i wr=>∃ k:Nat,k<=t.wrs.length/\i = .int .i64 k/\Hid ((t.wrs.take k).all Qa3=true)/\Below wa.heap.size wa wr) (fun i _=>t.wrs.length-(intOf i).toNat)
     case atStart=>exact ⟨0,Nat.zero_le _,rfl,rfl,Below.refl _ _⟩
     case round =>
      obtain ⟨k,hk,rfl,HA,hw⟩:=hrel
      have hB:=Qa HB hw
      replace c2:=keep hw c2
      replace c3:=keep hw c3
      by_cases hlt:k<t.wrs.length
      ·obtain ⟨p,off,s,z,n,x,rfl,d0,d1,d2,d3,HX⟩:=(h.later hw).wrs.at' (k:=k) hlt
       have hki:(k:Int)<t.wrs.length:=by omega
       by_cases hb:1000<s.size
       ·have HF:Hid (Vi t=false):=by show _=_;rw [Vi,Qcu hlt HX.out (by simp [Qa3];omega)];simp
        go_wp2
        go_ret
        exact ⟨Qm HF.out,hB⟩
       ·by_cases hb2:1000<x.size
        ·have HF:Hid (Vi t=false):=by show _=_;rw [Vi,Qcu hlt HX.out (by simp [Qa3];omega)];simp
         go_wp2
         go_ret
         exact ⟨Qm HF.out,hB⟩
        ·have HR:Hid ((t.wrs.take (k+1)).all Qa3=true):=JS hlt HX.out (by simp [Qa3];omega) HA.out
         go_wp2
         go_roundw
         case rel=>exact ⟨k+1,by omega,by go_num,HR,hw⟩
         case measure=>simp [intOf];omega
      ·have ek:k=t.wrs.length:=by omega
       have HR:Hid (t.wrs.all Qa3=true):=by show _=_;have:=HA.out;rw [ek,List.take_length] at this;exact this
       clear ek HA
       have HF:Hid (Vi t=true):=by show _=_;rw [Vi,HR1.out,HR.out,decide_eq_true hn.out,decide_eq_true hm.out];rfl
       go_wp2
       go_ret
       exact ⟨Qm HF.out,hB⟩
  ·have HF:Hid (Vi t=false):=by show _=_;rw [Vi,decide_eq_false hm];simp
   go_enter Tryz.func21,Tryz.ntmps21
   go_wp2
   go_ret
   exact ⟨Qm HF.out,HB⟩
 ·have HF:Hid (Vi t=false):=by show _=_;rw [Vi,decide_eq_false hn];simp
  go_enter Tryz.func21,Tryz.ntmps21
  go_wp2
  go_ret
  exact ⟨Qm HF.out,HB⟩
end Go.Proofs.YtcldpmkhpmlcbaaGreatDoor
