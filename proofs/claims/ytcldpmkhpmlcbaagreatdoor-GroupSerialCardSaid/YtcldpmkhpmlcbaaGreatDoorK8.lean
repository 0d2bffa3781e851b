/- part -/
import Derived.Test.YtcldpmkhpmlcbaaGreatDoorJ17
import Derived.Test.YtcldpmkhpmlcbaaGreatDoorJ12
import Derived.Deep.DeepCutAuto
import Derived.Deep.CutRange
import Derived.Handy
import Derived.Test.YtcldpmkhpmlcbaaGreatDoorK5
import Derived.Test.YtcldpmkhpmlcbaaGreatDoorK7
import Derived.Test.YtcldpmkhpmlcbaaGreatDoorK3
set_option linter.unusedVariables false
set_option linter.unusedSimpArgs false
namespace Go.Proofs.YtcldpmkhpmlcbaaGreatDoor
open Go.RowKit Go.Shelf Go.Maps
def QhZ (w:World) (v:Q0) (e:Ending) (w':World):Prop :=
 e = .returned (.tuple #[.agg #[.int .i64 v.val.kind,.int .u64 (v.val.bits:Int),.string v.val.text],.int .u64 (v.num:Int)])/\Below w.heap.size w w'
theorem Xf.new {W w1:World} {a b c:Value} {t:TypeId} (hb:Below (W.alloc (.cells #[a,b,c] t)).heap.size (W.alloc (.cells #[a,b,c] t)) w1):Xf w1 W.heap.size a b c:=Xf.later ⟨t,heap_alloc_new W _⟩ hb
theorem Xf.set17 {w:World} {g:Nat} {a b c:Value} (h:Xf w g a b c) (a' b' c':Value):Xf (((w.setCell ⟨g,0,none⟩ a').setCell ⟨g,1,none⟩ b').setCell ⟨g,2,none⟩ c') g a' b' c':=by
 obtain ⟨t,h⟩:=h
 exact ⟨t,Va h _ _ _⟩
theorem Qbw {n:Nat} {w W:World} {g:Nat} (h:Below n w W) (hg:n<=g) (a b c:Value):Below n w (((W.setCell ⟨g,0,none⟩ a).setCell ⟨g,1,none⟩ b).setCell ⟨g,2,none⟩ c) :=
 ((h.setCell hg _).setCell hg _).setCell hg _
theorem QoX {w w':World} {a:Addr} {v:Value} (h:w.cell? a=some v) (hb:Below w.heap.size w w'):w'.cell? a=some v/\Below w.heap.size w w':=⟨keep hb h,hb⟩
def Qfi (c:Ql) (g:Int) (x:Qk) (key:ByteArray):Q0:=if QO c key=g then KN x.s key x.s.last else Yg
set_option maxRecDepth 100000 in
set_option maxHeartbeats 4000000 in
theorem Qpe {w:World} {B p:Nat} {c:Ql} {g:Int} {lab:Nat->QL} {x:Qk} {E:Q9} {ov:Value} (h:Qo w B p c g lab x E ov) {key:ByteArray} (hk:key.size<=maxLen) (hn:(getK x.s.ks key).length<=900000) :
  Calls Tryz.prog 23 #[.pointer (some ⟨p,0,none⟩),.string key] w (QhZ w (Qfi c g x key)):=by
 obtain ⟨W,eW,HB,hsz,hrow⟩:=Qjp w (.int .i64 0) (.int .u64 0) (.string { data:=#[] }) 66
 have hM:=Lib.hid (h.later HB)
 obtain ⟨c0,c1,c2,_,c4,_⟩:=hM.out.cs
 have HR:=Lib.hid hrow
 have HR3:Hid (Xf W w.heap.size (.int .i64 0) (.int .u64 0) (.string { data:=#[] })):=⟨_,hrow⟩
 obtain ⟨y0,y1,y2,f0,f1,f2⟩:=K9 hrow
 obtain ⟨z,hz⟩:∃ z,QO c key=z:=⟨_,rfl⟩
 have hHo:Hid (∀ wz,Below W.heap.size W wz->Calls Tryz.prog 52 #[.agg #[.slice E.A c.reps.length E.ca,.slice E.A' c.bnds.length E.cb],.string key] wz fun e w'=>e = .returned (.int .i64 z)/\Below wz.heap.size wz w'):=fun wz hb=>by
  have:=VC c key E.A E.A' E.ca E.cb wz ((hM.out.later hb).cfg)
  rw [hz] at this
  exact this
 by_cases hg:z=g
 ·have HV:Hid (Qfi c g x key=KN x.s key x.s.last):=by show _=_;rw [Qfi,hz,if_pos hg]
  obtain ⟨v,hv⟩:∃ v,KN x.s key x.s.last=v:=⟨_,rfl⟩
  have hLa:Hid (∀ wz,Below W.heap.size W wz->Calls Tryz.prog 58 #[.pointer (some ⟨E.sp,0,none⟩)] wz fun e w'=>e = .returned (.int .u64 (x.s.last:Int))/\wz=w'):=fun wz hb=>Qbd ((hM.out.later hb).s)
  have hGe:Hid (∀ wz,Below W.heap.size W wz->Calls Tryz.prog 53 #[.pointer (some ⟨E.sp,0,none⟩),.string key,.int .u64 (x.s.last:Int)] wz (Qcw wz v (Qba x.s x.s.last))):=fun wz hb=>by
   have:=Qfs (hM.out.later hb).s key hk x.s.last hn
   rw [hv] at this
   exact this
  obtain ⟨ol,hol⟩:∃ ol,Qba x.s x.s.last=ol:=⟨_,rfl⟩
  obtain ⟨la,hla⟩:∃ la,x.s.last=la:=⟨_,rfl⟩
  rw [hv] at HV
  rw [hol,hla] at hGe
  rw [hla] at hLa
  have hq:(z != g)=false:=by simp [hg]
  clear hv hol hla hg hz hrow h
  go_enter Tryz.func23,Tryz.ntmps23
  go_wp2
  go_region_held3 (fun w'=>w'.cell? ⟨p,0,none⟩=some (.slice E.A c.reps.length E.ca)/\w'.cell? ⟨p,1,none⟩=some (.slice E.A' c.bnds.length E.cb)/\w'.cell? ⟨p,2,none⟩=some (.int .i64 g))
   (first | exact ⟨c0,c1,c2⟩ | exact ⟨keep hb1 c0,keep hb1 c1,keep hb1 c2⟩ | fail)
   ((go_at_call 52;(with_reducible refine (hHo.out _ (Qb (Below.refl W.heap.size W))).mono ?_);rintro e w1 ⟨rfl,hb⟩;have hb1:Below W.heap.size W w1:=Qa (Qb (Below.refl W.heap.size W)) hb))
  obtain ⟨wb,rfl⟩:∃ wb:World,wb=w1:=⟨_,rfl⟩
  have d4:=keep hb1 c4
  have HR1:=Lib.hid (HR3.out.later hb1)
  replace hLa:Hid (∀ wz,Below wb.heap.size wb wz->Calls Tryz.prog 58 #[.pointer (some ⟨E.sp,0,none⟩)] wz fun e w'=>e = .returned (.int .u64 (la:Int))/\wz=w'):=fun wz hb=>hLa.out wz (Qa hb1 hb)
  replace hGe:Hid (∀ wz,Below wb.heap.size wb wz->Calls Tryz.prog 53 #[.pointer (some ⟨E.sp,0,none⟩),.string key,.int .u64 (la:Int)] wz (Qcw wz v ol)):=fun wz hb=>hGe.out wz (Qa hb1 hb)
  have HBb:=Lib.hid (Qa HB hb1)
  clear hM c0 c1 c2 c4 hHo hb1 hb eW HB HR HR3 y0 y1 y2 f0 f1 f2
  go_upto_region 3 with fail
  go_cut [6,7] (fun s6 s7 wx=>∃ rb,s6 = .pointer (some ⟨rb,0,none⟩)/\s7 = .int .u64 (v.num:Int)/\Xf wx rb (.int .i64 v.val.kind) (.int .u64 (v.val.bits:Int)) (.string v.val.text)/\Below wb.heap.size wb wx)
  case first =>
   go_region_held3 (fun w'=>w'.cell? ⟨p,4,none⟩=some (.pointer (some ⟨E.sp,0,none⟩))/\Below wb.heap.size wb w')
    (with_reducible refine QoX d4 ?_;first | (with_reducible exact Qb (Below.refl _ _)) | go_grown)
    (first
     | (go_at_call 58;(with_reducible refine (hLa.out _ ‹_/\Below wb.heap.size wb _›.2).mono ?_);rintro e w3 ⟨rfl,rfl⟩)
     | (go_at_call 53;(with_reducible refine (hGe.out _ ‹_/\Below wb.heap.size wb _›.2).mono ?_);rintro e w4 ⟨rfl,hb'⟩;have hb4:Below wb.heap.size wb w4:=Qa ‹_/\Below wb.heap.size wb _›.2 hb';have hz4:=hb4.size;(first | have Y:=Xf.newd hb' | have Y:=Xf.new hb' | skip);(try (obtain ⟨y0,y1,y2,f0,f1,f2⟩:=Y.facts))))
   all_goals (go_wp2_with fail;go_meet)
   ·exact ⟨_,rfl,rfl,⟨_,heap_alloc_new w4 _⟩,hb4.alloc hz4 _⟩
   all_goals exact ⟨_,rfl,rfl,Y.set17 _ _ _,Qbw hb4 (Nat.le_refl _) _ _ _⟩
  case rest =>
   obtain ⟨rb,rfl,rfl,Y,hbc⟩:=hcut
   obtain ⟨w9,rfl⟩:∃ wq:World,wq=wc:=⟨_,rfl⟩
   have HR9:=HR1.out.later hbc
   obtain ⟨x0,x1,x2,_⟩:=Y.facts
   obtain ⟨y0,y1,y2,f0,f1,f2⟩:=HR9.facts
   replace hbc:=Lib.hid hbc
   clear hLa hGe d4 HR1 Y
   go_wp2
   obtain ⟨z0,z1,z2,_⟩:=(HR9.set17 (.int .i64 v.val.kind) (.int .u64 (v.val.bits:Int)) (.string v.val.text)).facts
   refine bodyPost_ret (v:=.tuple #[.agg #[.int .i64 v.val.kind,.int .u64 (v.val.bits:Int),.string v.val.text],.int .u64 (v.num:Int)]) (by simp [results,Tryz.results23,go_sem,z0,z1,z2]) rfl ⟨?_,?_⟩
   ·rw [HV.out]
   ·exact Qbw (Qa HBb.out hbc.out) (Nat.le_refl _) _ _ _
 ·have HV:Hid (Qfi c g x key=Yg):=by show _=_;rw [Qfi,hz,if_neg hg]
  have hq:(z != g)=true:=by simp [hg]
  clear hg hz hrow h hM hn hk
  go_enter Tryz.func23,Tryz.ntmps23
  go_wp2
  go_region_held3 (fun w'=>w'.cell? ⟨p,0,none⟩=some (.slice E.A c.reps.length E.ca)/\w'.cell? ⟨p,1,none⟩=some (.slice E.A' c.bnds.length E.cb)/\w'.cell? ⟨p,2,none⟩=some (.int .i64 g))
   (first | exact ⟨c0,c1,c2⟩ | exact ⟨keep hb1 c0,keep hb1 c1,keep hb1 c2⟩ | fail)
   ((go_at_call 52;(with_reducible refine (hHo.out _ (Qb (Below.refl W.heap.size W))).mono ?_);rintro e w1 ⟨rfl,hb⟩;have hb1:Below W.heap.size W w1:=Qa (Qb (Below.refl W.heap.size W)) hb))
  have HR1:=HR3.out.later hb1
  obtain ⟨y0,y1,y2,f0,f1,f2⟩:=HR1.facts
  clear c0 c1 c2 c4 hHo
  go_wp2
  obtain ⟨z0,z1,z2,_⟩:=(HR1.set17 (.int .i64 0) (.int .u64 0) (.string { data:=#[] })).facts
  refine bodyPost_ret (v:=.tuple #[.agg #[.int .i64 0,.int .u64 0,.string { data:=#[] }],.int .u64 0]) (by simp [results,Tryz.results23,go_sem,z0,z1,z2]) rfl ⟨?_,?_⟩
  ·rw [HV.out];rfl
  ·exact Qbw (Qa HB hb1) (Nat.le_refl _) _ _ _
theorem Qoj {c:Ql} {all:List Tx} {W:Wd} {O:List Yl} {ol:List Q6} (hE:UB c all W) (hp:Xp c all) (h:Jo c all W all.length O) (ho:QS ol=Kz O):QoW c W (QS ol):=by
 have hO:=h.end
 have hS:=Qnn hE hp hO
 have hl:=h.len
 rw [ho]
 refine ⟨fun t ht=>?_,?_,fun i t hi g hg=>?_,fun g hg=>hS.st g hg⟩
 ·obtain ⟨x,hx,rfl⟩:=List.mem_map.1 ht
  exact hp.f _ (hO.mem x hx).1
 ·rw [Kz,List.length_map]
  have:=hp.l
  omega
 ·rw [Kz,List.getElem?_map] at hi
  cases hx:O[i]? with
  | none=>rw [hx] at hi;cases hi
  | some x =>
   rw [hx] at hi
   injection hi with hi
   have hlt:i<O.length:=(List.getElem?_eq_some_iff.1 hx).1
   have e:O=O.take i ++ x :: O.drop (i+1):=by
    have:x=O[i]:=by rw [List.getElem?_eq_getElem hlt] at hx;injection hx with hx;exact hx.symm
    rw [this];simp
   have h1:=hS.rd (O.take i) x (O.drop (i+1)) e g hg
   rw [<- hi,Kz, <- List.map_take]
   exact h1
theorem Qnp {α:Type} {f:α->List Value} {n:Nat} (hf:∀ a,(f a).length=n) {w:World} {base g cap:Nat} {e:TypeId} {l:List α} (h:w.ownsRow base e n (.slice (some ⟨g,0,none⟩) l.length cap) l.length (l.flatMap f)):∀ j u,(l.flatMap f)[j]? = some u->w.cell? ⟨g,j,none⟩=some u:=fun j u hu=>by
 rcases h.2 with ⟨e1,_⟩ | ⟨g',cap',cur,e1,hfr,hh,hn,_,_,ht⟩
 ·cases e1
 ·cases e1
  have hj:j<(l.flatMap f).length:=(List.getElem?_eq_some_iff.1 hu).1
  rw [<- ht] at hu
  rw [List.getElem?_take_of_lt (by
   rw [<- ht,List.length_take] at hj
   omega)] at hu
  simp only [World.cell?,hh]
  rw [<- Array.getElem?_toList,hu]
  simp
theorem Qgh {α:Type} {f:α->List Value} {n:Nat} (hf:∀ a,(f a).length=n):∀ (l:List α) (k:Nat),(l.take k).flatMap f=(l.flatMap f).take (k * n)
 | l,0=>by simp
 | [],k+1=>by simp
 | x :: l,k+1=>by
  rw [List.take_succ_cons,List.flatMap_cons,List.flatMap_cons,Qgh hf l k,List.take_append,hf,List.take_of_length_le (l:=f x) (by rw [hf,Nat.succ_mul];omega),show (k+1) * n-n=k * n by rw [Nat.succ_mul];omega]
theorem Qgi {α:Type} {f:α->List Value} {n:Nat} (hf:∀ a,(f a).length=n):∀ (l:List α) (k:Nat),(l.drop k).flatMap f=(l.flatMap f).drop (k * n)
 | l,0=>by simp
 | [],k+1=>by simp
 | x :: l,k+1=>by
  rw [List.drop_succ_cons,List.flatMap_cons,Qgi hf l k,List.drop_append,hf,List.drop_eq_nil_of_le (show (f x).length<=(k+1) * n by rw [hf,Nat.succ_mul];omega),show (k+1) * n-n=k * n by rw [Nat.succ_mul];omega,List.nil_append]
def JN (x:Yl):List Value:=[.int .u64 (x.s:Int)]
structure Jp (w0 wr:World) (B:Nat) (ov sv:Value) (ol:List Q6) (O:List Yl):Prop where
 r:wr.ownsRow B 38 4 ov ol.length (ol.flatMap Q6.vs)
 s:wr.ownsRow B 39 1 sv O.length (O.flatMap JN)
 l:ol.length=O.length
 e:QS ol=Kz O
 t:∀ a ∈ ol,QY w0 a.t a.A a.B
theorem Jp.later {w0 wr wz:World} {B:Nat} {ov sv:Value} {ol:List Q6} {O:List Yl} (h:Jp w0 wr B ov sv ol O) (hb:Below wr.heap.size wr wz):Jp w0 wz B ov sv ol O:={ h with r:=Qi h.r hb,s:=Qi h.s hb }
theorem Jp.start (w0 wr:World) (B:Nat):Jp w0 wr B (.slice none 0 0) (.slice none 0 0) [] []:=⟨Q7 _ _ _ _,Q7 _ _ _ _,rfl,rfl,fun _ h=>by cases h⟩
theorem Jp.all {w0 w wr:World} {b j jw:Nat} {c:Ql} {W:Wd} {F:Xe} {ov sv:Value} {ol:List Q6} {O:List Yl} {B:Nat} (h:Jp w0 wr B ov sv ol O) (hi:Q3 w0 w b c j jw W F) (hB:w.heap.size<=B):∃ (A:Option Addr) (ca:Nat),ov = .slice A ol.length ca/\Kl w0 wr F A ol:=by
 obtain ⟨A,ca,e,hk⟩:=Qbt (n:=4) (fun a:Q6=>rfl) Ya h.r
 refine ⟨A,ca,e,fun k hkl=>?_⟩
 obtain ⟨g,off,e1,h2⟩:=hk k hkl
 have h3:=fun j v hv=>(by have:=h2 j v hv;rwa [Go.WideShapes.add_plain] at this:wr.cell? ⟨g,off+k * 4+j,none⟩=some v)
 have hb:ov.ownBlock=some g:=by
  rcases h.r.2 with ⟨e2,h0⟩ | ⟨g',cap,cur,e2,_⟩
  ·omega
  ·rw [e2] at e;injection e with e3;rw [e1] at e3;cases e3;rw [e2];rfl
 have hgB:=(h.r.lt g hb).1
 refine ⟨g,off,e1,hi.fresh (by omega),Yc (h3 0 (.int .i64 (ol.getD k Ya).t.ses) rfl),fun j v hj=>h3 j v ?_,h.t _ (by rw [List.getD_eq_getElem?_getD,List.getElem?_eq_getElem hkl];exact List.getElem_mem hkl)⟩
 rw [<- Array.getElem?_toList];exact hj
end Go.Proofs.YtcldpmkhpmlcbaaGreatDoor
