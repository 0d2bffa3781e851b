/- part -/
import Derived.Test.YtcldpmkhpmlcbaaGreatDoorJ5
import Derived.Test.YtcldpmkhpmlcbaaGreatDoorJ1
import Derived.Deep.RegionHeld3
set_option linter.unusedVariables false
set_option linter.unusedSimpArgs false
namespace Go.Proofs.YtcldpmkhpmlcbaaGreatDoor
open Go.RowKit Go.Maps Go.Shelf Go.Sort
def V0 (x:It):List Value:=[.string x.key,.int .i64 x.val.kind,.int .u64 (x.val.bits:Int),.string x.val.text,.int .u64 (x.num:Int)]
def Zy (l:List It):List Value:=l.flatMap V0
theorem QcP (l m:List It):Zy (l ++ m)=Zy l ++ Zy m:=by simp [Zy]
theorem Qdh:∀ l:List It,(Zy l).length=l.length * 5
 | []=>rfl
 | x :: l=>by have:=Qdh l;rw [show Zy (x :: l)=V0 x ++ Zy l from rfl,List.length_append,this];simp [V0];omega
theorem QaP (v:It):∀ u ∈ V0 v,u.oneCell'=true:=fun u hu=>by
 simp only [V0,List.mem_cons,List.not_mem_nil,or_false] at hu
 rcases hu with rfl | rfl | rfl | rfl | rfl <;> rfl
theorem QmC (l:List It):∀ u ∈ Zy l,u.oneCell'=true:=fun u hu=>by
 obtain ⟨x,_,hu⟩:=List.mem_flatMap.1 hu
 exact QaP x u hu
def Um (w:World) (A:Option Addr) (l:List It):Prop :=
 ∀ i,i<l.length->∃ b off,A=some ⟨b,off,none⟩/\w.cell? ⟨b,off+i * 5,none⟩=some (.string (l.getD i JT).key)/\w.cell? ⟨b,off+i * 5+1,none⟩=some (.int .i64 (l.getD i JT).val.kind) /\
  w.cell? ⟨b,off+i * 5+2,none⟩=some (.int .u64 ((l.getD i JT).val.bits:Nat))/\w.cell? ⟨b,off+i * 5+3,none⟩=some (.string (l.getD i JT).val.text)/\w.cell? ⟨b,off+i * 5+4,none⟩=some (.int .u64 ((l.getD i JT).num:Nat))
theorem Um.later {w w':World} {A:Option Addr} {l:List It} (h:Um w A l) (hb:Below w.heap.size w w'):Um w' A l:=by
 intro i hi
 obtain ⟨b,off,e,h0,h1,h2,h3,h4⟩:=h i hi
 exact ⟨b,off,e,keep hb h0,keep hb h1,keep hb h2,keep hb h3,keep hb h4⟩
theorem Um.at' {w:World} {A:Option Addr} {l:List It} (h:Um w A l) {k:Nat} (hk:k<l.length) :
  ∃ b off s z m t n,A=some ⟨b,off,none⟩/\w.cell? ⟨b,off+k * 5,none⟩=some (.string s)/\w.cell? ⟨b,off+k * 5+1,none⟩=some (.int .i64 z) /\
   w.cell? ⟨b,off+k * 5+2,none⟩=some (.int .u64 (m:Nat))/\w.cell? ⟨b,off+k * 5+3,none⟩=some (.string t)/\w.cell? ⟨b,off+k * 5+4,none⟩=some (.int .u64 (n:Nat))/\Hid (l.getD k JT=⟨s,⟨z,m,t⟩,n⟩):=by
 obtain ⟨b,off,e,h0,h1,h2,h3,h4⟩:=h k hk
 exact ⟨b,off,_,_,_,_,_,e,h0,h1,h2,h3,h4,rfl⟩
theorem QeW:∀ (l:List It) (i:Nat),i<l.length->(Zy l)[i * 5]? = some (.string (l.getD i JT).key)/\(Zy l)[i * 5+1]? = some (.int .i64 (l.getD i JT).val.kind)/\(Zy l)[i * 5+2]? = some (.int .u64 ((l.getD i JT).val.bits:Nat))/\(Zy l)[i * 5+3]? = some (.string (l.getD i JT).val.text)/\(Zy l)[i * 5+4]? = some (.int .u64 ((l.getD i JT).num:Nat))
 | [],i,h=>by simp at h
 | x :: l,0,_=>by simp [Zy,V0]
 | x :: l,i+1,h=>by
  have:=QeW l i (by simpa using h)
  rw [show (i+1) * 5=i * 5+5 by omega,show i * 5+5+1=(i * 5+1)+5 by omega,show i * 5+5+2=(i * 5+2)+5 by omega,show i * 5+5+3=(i * 5+3)+5 by omega,show i * 5+5+4=(i * 5+4)+5 by omega]
  simpa [Zy,V0] using this
theorem QaQ {w:World} {B:Nat} {e:TypeId} {v:Value} {l:List It} (h:w.ownsRow B e 5 v l.length (Zy l)):∃ (A:Option Addr) (cap:Nat),v = .slice A l.length cap/\l.length<=cap/\Um w A l:=by
 rcases h.2 with ⟨rfl,h0⟩ | ⟨g,cap,cur,rfl,hfr,hh,hn,_,_,ht⟩
 ·exact ⟨none,0,by rw [h0],by omega,fun i hi=>by omega⟩
 ·refine ⟨some ⟨g,0,none⟩,cap,rfl,hn,fun i hi=>⟨g,0,rfl,?_⟩⟩
  have hc:∀ j,j<l.length * 5->w.cell? ⟨g,0+j,none⟩=(Zy l)[j]?:=by
   intro j hj
   have h1:(cur.toList.take (l.length * 5))[j]? = (Zy l)[j]?:=by rw [ht]
   rw [List.getElem?_take_of_lt (by omega)] at h1
   simp only [World.cell?,hh,Nat.zero_add,Option.isSome_none,Bool.false_eq_true,if_false]
   rw [<- Array.getElem?_toList,h1]
  have:=QeW l i hi
  exact ⟨by rw [hc _ (by omega)];exact this.1,by rw [Nat.add_assoc,hc _ (by omega)];exact this.2.1,by rw [Nat.add_assoc,hc _ (by omega)];exact this.2.2.1,by rw [Nat.add_assoc,hc _ (by omega)];exact this.2.2.2.1,by rw [Nat.add_assoc,hc _ (by omega)];exact this.2.2.2.2⟩
theorem QmD {w:World} {b off:Nat} {l:List It} (h:Um w (some ⟨b,off,none⟩) l) (j:Nat) (hj:j<l.length * 5):w.cell? ⟨b,off+j,none⟩=(Zy l)[j]?:=by
 obtain ⟨b',off',e,h0,h1,h2,h3,h4⟩:=h (j / 5) (by omega)
 cases e
 have hr:=QeW l (j / 5) (by omega)
 have hd:j=j / 5 * 5+j % 5:=by omega
 have hm:j % 5=0 \/ j % 5=1 \/ j % 5=2 \/ j % 5=3 \/ j % 5=4:=by omega
 generalize j / 5=i at *
 rcases hm with e | e | e | e | e
 all_goals
  rw [e] at hd
  subst hd
 ·rw [Nat.add_zero,h0,hr.1]
 ·rw [<- Nat.add_assoc,h1,hr.2.1]
 ·rw [<- Nat.add_assoc,h2,hr.2.2.1]
 ·rw [<- Nat.add_assoc,h3,hr.2.2.2.1]
 ·rw [<- Nat.add_assoc,h4,hr.2.2.2.2]
theorem Qfu:∀ (l:List It) (k:Nat),Zy (l.drop k)=(Zy l).drop (k * 5)
 | l,0=>by simp
 | [],k+1=>by simp [Zy]
 | x :: l,k+1=>by
  rw [List.drop_succ_cons,Qfu l k,show Zy (x :: l)=V0 x ++ Zy l from rfl,show (k+1) * 5=(V0 x).length+k * 5 by show (k+1) * 5=5+k * 5;omega,List.drop_append,List.drop_eq_nil_of_le (Nat.le_add_right _ _),Nat.add_sub_cancel_left,List.nil_append]
theorem QmE {w:World} {b off:Nat} {l:List It} (h:Um w (some ⟨b,off,none⟩) l) (k:Nat):∀ ad,some (⟨b,off+k * 5,none⟩:Addr)=some ad->∀ j u,(Zy (l.drop k))[j]? = some u->w.cell? (ad.add j)=some u:=by
 intro ad e j u hu
 cases e
 rw [Qfu,List.getElem?_drop] at hu
 have hj:k * 5+j<l.length * 5:=by
  have:=(List.getElem?_eq_some_iff.1 hu).1
  rwa [Qdh] at this
 rw [Go.WideShapes.add_plain,Nat.add_assoc,QmD h _ hj,hu]
theorem QiI:(Tryz.prog.info? 128).map (fun i=>(i.zero,i.size,i.bytes))=some (some (.agg #[.string ByteArray.empty,.int .i64 0,.int .u64 0,.string ByteArray.empty,.int .u64 0]),5,56):=by kernel_rfl
structure Yi (w:World) (B q:Nat) (v:Value) (O:Nat->Prop) (L:List It) (last low:Nat):Prop where
 blk:w.heap[q]? = some (.cells #[v,.int .u64 (last:Int),.int .u64 (low:Int)] 121 (0,0))
 row:w.ownsRow B 128 5 v L.length (Zy L)
 hq:O q
 mine:∀ g,v.ownBlock=some g->O g/\g ≠ q
 lt:∀ k,O k->B<=k/\k<w.heap.size
def Kb (w:World) (B q:Nat) (O:Nat->Prop) (L:List It) (last low:Nat):Prop:=∃ v,Yi w B q v O L last low
section
variable {w w':World} {B q:Nat} {v:Value} {O O':Nat->Prop} {L:List It} {last low:Nat}
theorem Yi.c0 (h:Yi w B q v O L last low):w.cell? ⟨q,0,none⟩=some v:=by
 rw [cell_of_row w q 0 _ _ _ h.blk];rfl
theorem Yi.c1 (h:Yi w B q v O L last low):w.cell? ⟨q,1,none⟩=some (.int .u64 (last:Int)):=by
 rw [cell_of_row w q 1 _ _ _ h.blk];rfl
theorem Yi.c2 (h:Yi w B q v O L last low):w.cell? ⟨q,2,none⟩=some (.int .u64 (low:Int)):=by
 rw [cell_of_row w q 2 _ _ _ h.blk];rfl
theorem Yi.fz (h:Yi w B q v O L last low) (j:Nat):w.frozen? ⟨q,j,none⟩=false:=frozen_of_row w q j _ _ h.blk
theorem Yi.out (h:Yi w B q v O L last low) (hw:Qg O' w w') (hd:∀ k,O k->¬ O' k):Yi w' B q v O L last low :=
 ⟨hw.obj h.blk (hd _ h.hq),hw.row h.row (fun g hg=>hd g (h.mine g hg).1),h.hq,h.mine,fun k hk=>⟨(h.lt k hk).1,Nat.lt_of_lt_of_le (h.lt k hk).2 hw.size⟩⟩
theorem Yi.later (h:Yi w B q v O L last low) (hb:Below w.heap.size w w'):Yi w' B q v O L last low :=
 h.out (O':=fun _=>False) (Qg.of_below hb) (fun _ _ h=>h)
theorem Yi.mono (h:Yi w B q v O L last low) (hs:∀ k,O k->O' k) (hl:∀ k,O' k->B<=k/\k<w.heap.size):Yi w B q v O' L last low :=
 ⟨h.blk,h.row,hs _ h.hq,fun g hg=>⟨hs g (h.mine g hg).1,(h.mine g hg).2⟩,hl⟩
theorem Kb.out (h:Kb w B q O L last low) (hw:Qg O' w w') (hd:∀ k,O k->¬ O' k):Kb w' B q O L last low:=by
 obtain ⟨v,h⟩:=h
 exact ⟨v,h.out hw hd⟩
theorem Kb.later (h:Kb w B q O L last low) (hb:Below w.heap.size w w'):Kb w' B q O L last low :=
 h.out (O':=fun _=>False) (Qg.of_below hb) (fun _ _ h=>h)
theorem Kb.stay (h:Kb w B q O L last low) (hb:Below w.heap.size w w') (hB:B<=w.heap.size):Kb w' B q (ext O w w') L last low:=by
 obtain ⟨v,h⟩:=h.later hb
 exact ⟨v,h.mono (fun k hk=>.inl hk) (fun k hk=>Or.elim hk (h.lt k) (fun e=>⟨by omega,e.2⟩))⟩
theorem Yi.setLast (h:Yi w B q v O L last low) (n:Nat):Yi (w.setCell ⟨q,1,none⟩ (.int .u64 (n:Int))) B q v O L n low:=by
 have hb:=YZ (j:=1) (.int .u64 (n:Int)) h.blk
 have ho:=YA w q 1 (.int .u64 (n:Int))
 exact { blk:=by simpa using hb,row:=ho.row h.row (fun g hg e=>(h.mine g hg).2 e),hq:=h.hq,mine:=h.mine,lt:=fun k hk=>⟨(h.lt k hk).1,by have:=(h.lt k hk).2;have:=ho.size;omega⟩ }
theorem Yi.setLow (h:Yi w B q v O L last low) (n:Nat):Yi (w.setCell ⟨q,2,none⟩ (.int .u64 (n:Int))) B q v O L last n:=by
 have hb:=YZ (j:=2) (.int .u64 (n:Int)) h.blk
 have ho:=YA w q 2 (.int .u64 (n:Int))
 exact { blk:=by simpa using hb,row:=ho.row h.row (fun g hg e=>(h.mine g hg).2 e),hq:=h.hq,mine:=h.mine,lt:=fun k hk=>⟨(h.lt k hk).1,by have:=(h.lt k hk).2;have:=ho.size;omega⟩ }
theorem Yi.setList {w1:World} {v':Value} {L':List It} (h:Yi w B q v O L last low) (hb:Below w.heap.size w w1) (hr:w1.ownsRow w.heap.size 128 5 v' L'.length (Zy L')) :
  Yi (w1.setCell ⟨q,0,none⟩ v') B q v' (ext O w (w1.setCell ⟨q,0,none⟩ v')) L' last low:=by
 have h1:=h.later hb
 have hs:=YZ (j:=0) v' h1.blk
 have ho:=YA w1 q 0 v'
 have hqlt:=(h.lt q h.hq)
 have hsz:=hb.size
 have hne:∀ g,v'.ownBlock=some g->g ≠ q:=fun g hg e=>by have:=(hr.lt g hg).1;omega
 have hr2:=ho.row hr (fun g hg e=>hne g hg e)
 refine { blk:=by simpa using hs,row:=⟨hr2.1,?_⟩,hq:=.inl h.hq,mine:=fun g hg=>⟨.inr ⟨(hr2.lt g hg).1,(hr2.lt g hg).2⟩,hne g hg⟩,lt:=fun k hk=>Or.elim hk (fun hk=>⟨(h.lt k hk).1,by have:=(h.lt k hk).2;have:=ho.size;omega⟩) (fun e=>⟨by omega,e.2⟩) }
 rcases hr2.2 with e | ⟨g,cap,cur,e,hg,r⟩
 ·exact .inl e
 ·exact .inr ⟨g,cap,cur,e,by omega,r⟩
end
theorem Qjq {L:List It} {k:ByteArray} {j n:Nat} {x:It} (hj:j<L.length) (h:(L.take j).all (fun x=>!(decide (x.key=k) && decide (x.num<=n)))=true) (hx:L.getD j JT=x) (h1:x.key=k) (h2:x.num<=n):KB L k n=⟨x.num,x.val⟩:=by
 have e:L=L.take j ++ x :: L.drop (j+1):=by
  have:x=L[j]:=by rw [<- hx,List.getD_eq_getElem?_getD,List.getElem?_eq_getElem hj];rfl
  rw [this];simp
 rw [e,KB,List.find?_append,KW fun y hy=>(by have:=List.all_eq_true.1 h y hy;rwa [Bool.not_eq_true'] at this),List.find?_cons,decide_eq_true h1,decide_eq_true h2]
 rfl
theorem Qjr {L:List It} {k:ByteArray} {n:Nat} (h:L.all (fun x=>!(decide (x.key=k) && decide (x.num<=n)))=true):KB L k n=Yg:=by
 rw [KB,KW fun y hy=>(by have:=List.all_eq_true.1 h y hy;rwa [Bool.not_eq_true'] at this)]
 rfl
theorem QdS (a b:ByteArray):(a.toList == b.toList)=decide (a=b):=by
 by_cases h:a=b
 ·simp [h]
 ·have:a.toList ≠ b.toList:=fun e=>h (U8 e)
  simp [h,this]
def KY (w:World) (v:Q0) (e:Ending) (w':World):Prop :=
 e = .returned (.tuple #[.agg #[.int .i64 v.val.kind,.int .u64 (v.val.bits:Int),.string v.val.text],.int .u64 (v.num:Int)])/\Below w.heap.size w w'
theorem QkV:(Tryz.prog.info? 9).map (fun i=>(i.zero,i.size,i.bytes))=some (some (.string ByteArray.empty),1,16):=by kernel_rfl
def QJ (t:Tx):List ByteArray:=t.rds.map (·.key)
def QT (t:Tx):List ByteArray:=t.wrs.map (·.key)
def QgX (w:World) (l:List ByteArray) (e:Ending) (w':World):Prop :=
 ∃ (A:Option Addr) (cap:Nat),e = .returned (.slice A l.length cap)/\l.length<=cap/\ZM w' A l/\Below w.heap.size w w'
theorem QkW {l:List Rd} {k:Nat} {s:ByteArray} {n:Nat} (hk:k<l.length) (h:l.getD k XB=⟨s,n⟩):(l.take (k+1)).map (·.key)=(l.take k).map (·.key) ++ [s]:=by
 rw [List.take_succ_eq_append_getElem hk,List.map_append]
 rw [List.getD_eq_getElem?_getD,List.getElem?_eq_getElem hk] at h
 simp only [Option.getD_some] at h
 simp [h]
theorem QkX {l:List Wr} {k:Nat} {s:ByteArray} {v:JQ} (hk:k<l.length) (h:l.getD k Zf=⟨s,v⟩):(l.take (k+1)).map (·.key)=(l.take k).map (·.key) ++ [s]:=by
 rw [List.take_succ_eq_append_getElem hk,List.map_append]
 rw [List.getD_eq_getElem?_getD,List.getElem?_eq_getElem hk] at h
 simp only [Option.getD_some] at h
 simp [h]
theorem QbA (w:World) (o:Obj) (v:Value) (t:TypeId):∀ (j:Nat) (u:Value),[v][j]? = some u->((w.alloc o).alloc (.cells #[v] t)).cell? ((⟨w.heap.size+1,0,none⟩:Addr).add j)=some u:=by
 intro j u hu
 cases j with
 | zero=>simp at hu;subst hu;simp [Addr.add]
 | succ j=>simp at hu
set_option maxRecDepth 100000 in
set_option maxHeartbeats 2000000 in
theorem QgY (t:Tx) (A B:Option Addr) (ca cb:Nat) (w:World) (h:QY w t A B) (hn:t.rds.length<=6) (hm:t.wrs.length<=6) :
  Calls Tryz.prog 135 #[XA t A B ca cb] w (QgX w (QJ t ++ QT t)):=by
 unfold XA
 obtain ⟨W,eW,HB,c0,c1,c2,c3⟩:=QeS w (.int .i64 t.ses) (.int .i64 t.seq) (.slice A t.rds.length ca) (.slice B t.wrs.length cb) 38
 have h:=h.later HB
 obtain ⟨i0,hi,hz0,hz1,hz2⟩:=info_parts QkV
 go_enter Tryz.func135,Tryz.ntmps135
 go_wp2_with fail
 clear eW
 go_loopw [3,11] (fun v i wr=>∃ k:Nat,k<=t.rds.length/\i = .int .i64 k/\Hid (wr.ownsRow W.heap.size 9 1 v k (((t.rds.take k).map (·.key)).map Value.string))/\Below W.heap.size W wr) (fun _ i _=>t.rds.length-(intOf i).toNat)
 case atStart=>exact ⟨0,Nat.zero_le _,rfl,Q7 _ _ _ _,Below.refl _ _⟩
 case round =>
  obtain ⟨k,hk,rfl,HO,hw⟩:=hrel
  have hr:=h.later hw
  replace c0:=keep hw c0
  replace c2:=keep hw c2
  replace c3:=keep hw c3
  by_cases hlt:k<t.rds.length
  ·obtain ⟨b,off,s,n,rfl,d0,d1,HX⟩:=hr.rds.at' hlt
   have HT:=Lib.hid (QkW hlt HX.out)
   go_wp2_with (at_builtin;refine wpList_append_own _ rfl _ _ 23 rfl W.heap.size 9 i0 (.string Qt) 1 16 Tryz.underlying23 hi hz0 hz1 hz2 rfl (by decide) _ _ _ rfl (Qi HO.out (ZL _ _ _)) ⟨wr.heap.size+1,0,none⟩ 1 1 [.string s] rfl rfl (QbA _ _ _ _) QbI (QA (by omega)) (by omega) (Nat.le_trans hw.size (ZL _ _ _).size) ?_;intro v3 w3 HO3 hg3 _;replace hw:=QX (Qa hw (ZL _ _ _)) (Nat.le_refl _) (Qi HO.out (ZL _ _ _)) hg3;replace HO3:=Lib.hid HO3;clear hg3)
   go_roundw
   case rel=>exact ⟨k+1,by omega,by go_num,by show World.ownsRow _ _ _ _ _ _ _;rw [HT.out,List.map_append];exact HO3.out,hw⟩
   case measure=>simp [intOf];omega
  ·have ek:k=t.rds.length:=by omega
   have HO1:Hid (wr.ownsRow W.heap.size 9 1 u3 (QJ t).length ((QJ t ++ (t.wrs.take 0).map (·.key)).map Value.string)):=by
    show World.ownsRow _ _ _ _ _ _ _
    have:=HO.out
    rw [ek,List.take_length] at this
    rw [QJ,List.length_map,List.take_zero,List.map_nil,List.append_nil]
    exact this
   have hKL:(QJ t).length<=6:=by rw [QJ,List.length_map];exact hn
   have HR:Hid (QJ t ++ QT t=QJ t ++ (t.wrs.take t.wrs.length).map (·.key)):=by show _=_;rw [List.take_length];rfl
   have HN:Hid ((QJ t ++ QT t).length=(QJ t).length+t.wrs.length):=by show _=_;rw [List.length_append];simp [QT]
   clear HO hr
   generalize QJ t=L at *
   go_wp2_with fail
   clear ek hlt hk
   obtain ⟨wb,rfl⟩:∃ wb:World,wb=wr:=⟨_,rfl⟩
   go_loopw [3,24] (fun v i wr=>∃ j:Nat,j<=t.wrs.length/\i = .int .i64 j/\Hid (wr.ownsRow W.heap.size 9 1 v (L.length+j) ((L ++ (t.wrs.take j).map (·.key)).map Value.string))/\Below W.heap.size W wr) (fun _ i _=>t.wrs.length-(intOf i).toNat)
   case atStart=>exact ⟨0,Nat.zero_le _,rfl,HO1,hw⟩
   case round =>
    obtain ⟨j,hj,rfl,HO,hw2⟩:=hrel
    clear HO1 hw
    have hr:=h.later hw2
    by_cases hlj:j<t.wrs.length
    ·obtain ⟨b,off,s,z,n,x,rfl,d0,d1,d2,d3,HX⟩:=hr.wrs.at' hlj
     have HT:=Lib.hid (QkX hlj HX.out)
     go_wp2_with (at_builtin;refine wpList_append_own _ rfl _ _ 23 rfl W.heap.size 9 i0 (.string Qt) 1 16 Tryz.underlying23 hi hz0 hz1 hz2 rfl (by decide) _ _ _ rfl (Qi HO.out (ZL _ _ _)) ⟨wr.heap.size+1,0,none⟩ 1 1 [.string s] rfl rfl (QbA _ _ _ _) QbI (QA (by omega)) (by omega) (Nat.le_trans hw2.size (ZL _ _ _).size) ?_;intro v3 w3 HO3 hg3 _;replace hw2:=QX (Qa hw2 (ZL _ _ _)) (Nat.le_refl _) (Qi HO.out (ZL _ _ _)) hg3;replace HO3:=Lib.hid HO3;clear hg3)
     go_roundw
     case rel=>exact ⟨j+1,by omega,by go_num,by show World.ownsRow _ _ _ _ _ _ _;rw [HT.out, <- List.append_assoc,List.map_append];exact HO3.out,hw2⟩
     case measure=>simp [intOf];omega
    ·have ej:j=t.wrs.length:=by omega
     go_wp2
     go_ret
     have:=HO.out
     rw [ej, <- HR.out, <- HN.out] at this
     obtain ⟨A',cap',rfl,hc,hI⟩:=Qmv this
     exact ⟨A',cap',rfl,hc,hI,Qa HB hw2⟩
set_option maxHeartbeats 1000000 in
theorem Qfv (l:List ByteArray) (K:Option Addr) (ck:Nat) (w:World) (hK:ZM w K l) (hn:l.length<=9223372036854775807) (hs:∀ k,k<l.length->(l.getD k Qt).size<=9223372036854775807) :
  Calls Tryz.prog 136 #[.slice K l.length ck] w fun e w'=>e = .returned (.bool (QB l l.length))/\Below w.heap.size w w':=by
 go_enter Tryz.func136,Tryz.ntmps136
 go_wp2_with fail
 go_loopw [7] (fun i wr=>∃ k:Nat,k<=l.length/\i = .int .i64 k/\Hid (QB l k=true)/\Below w.heap.size w wr) (fun i _=>l.length-(intOf i).toNat)
 case atStart=>exact ⟨0,Nat.zero_le _,rfl,rfl,Below.refl _ _⟩
 case round =>
  obtain ⟨k,hk,rfl,HA,hw⟩:=hrel
  have hKr:=QI.later hK hw
  by_cases hlt:k<l.length
  ·obtain ⟨b,off,x,rfl,hc,HX⟩:=ZM.at' hKr hlt
   have hsx:x.size<=maxLen:=by have:=hs k hlt;rw [HX.out] at this;exact this
   cases hkey:Yb x
   ·have HF:Hid (QB l l.length=false):=Jq hlt (by simp only [Yx,HX.out,hkey,Bool.false_and])
    go_wp2_with (go_at_call 79;refine (Xs _ _ hsx).mono ?_;rintro e w2 ⟨rfl,hb⟩;replace hw:=Qa hw hb)
    go_ret
    exact ⟨Qm HF.out,hw⟩
   ·by_cases hk0:k=0
    ·have HR:Hid (QB l (k+1)=true):=Jr HA.out HX.out hkey hk0
     have hg:decide (0<k)=false:=by rw [decide_eq_false_iff_not];omega
     clear hk0
     go_wp2_with (go_at_call 79;refine (Xs _ _ hsx).mono ?_;rintro e w2 ⟨rfl,hb⟩;replace hw:=Qa hw hb)
     go_roundw
     case rel=>exact ⟨k+1,by omega,by go_num,HR,hw⟩
     case measure=>simp [intOf];omega
    ·obtain ⟨b',off',y,e,hc',HY⟩:=ZM.at' hKr (k:=k-1) (by omega)
     injection e with e
     injection e with e1 e2
     subst e1 e2
     have hg:decide (0<k)=true:=by rw [decide_eq_true_iff];omega
     have hi:((k:Int)-1).toNat=k-1:=by omega
     have hk1:1<=k:=by omega
     cases hl:Qy y x
     ·have HF:Hid (QB l l.length=false):=Jq hlt (by simp only [Yx,HX.out,HY.out,hkey,hl,beq_eq_false_iff_ne.2 hk0,Bool.false_or,Bool.and_false])
      have hl':Op.bytesLess y.toList x.toList=false:=hl
      clear hl hk0
      go_wp2_with (go_at_call 79;refine (Xs _ _ hsx).mono ?_;rintro e w2 ⟨rfl,hb⟩;replace hc':=keep hb hc';replace hw:=Qa hw hb)
      go_ret
      exact ⟨Qm HF.out,hw⟩
     ·have HR:Hid (QB l (k+1)=true):=JP HA.out HX.out HY.out hkey hl
      have hl':Op.bytesLess y.toList x.toList=true:=hl
      clear hl hk0
      go_wp2_with (go_at_call 79;refine (Xs _ _ hsx).mono ?_;rintro e w2 ⟨rfl,hb⟩;replace hc':=keep hb hc';replace hw:=Qa hw hb)
      go_roundw
      case rel=>exact ⟨k+1,by omega,by go_num,HR,hw⟩
      case measure=>simp [intOf];omega
  ·have ek:k=l.length:=by omega
   have HF:Hid (QB l l.length=true):=by show _=_;rw [<- ek];exact HA.out
   go_wp2
   go_ret
   exact ⟨Qm HF.out,hw⟩
def idB (s q:Int):Bool:=decide (1<=s) && decide (s<=8) && decide (1<=q) && decide (q<=1048576)
def QbS (s q s' q':Int):Bool:=decide (s<s') || (decide (s=s') && decide (q<q'))
theorem Kv (s q:Int) (w:World):Calls Tryz.prog 82 #[.agg #[.int .i64 s,.int .i64 q]] w fun e w'=>e = .returned (.bool (idB s q))/\Below w.heap.size w w':=by
 obtain ⟨W,eW,HB,c0,c1⟩:=Y5 w (.int .i64 s) (.int .i64 q) 34
 have HI:Hid (idB s q=(decide (1<=s) && decide (s<=8) && decide (1<=q) && decide (q<=1048576))):=rfl
 go_enter Tryz.func82,Tryz.ntmps82
 go_wp2
 all_goals go_ret
 all_goals refine ⟨Qm ?_,HB⟩
 all_goals rw [HI.out]
 all_goals simp [*] <;> omega
theorem V1 (s q:Int) (w:World):Calls Tryz.prog 55 #[.agg #[.int .i64 s,.int .i64 q]] w fun e w'=>e = .returned (.bool (idB s q))/\Below w.heap.size w w':=by
 obtain ⟨W,eW,HB,c0,c1⟩:=Y5 w (.int .i64 s) (.int .i64 q) 34
 have HI:Hid (idB s q=(decide (1<=s) && decide (s<=8) && decide (1<=q) && decide (q<=1048576))):=rfl
 go_enter Tryz.func55,Tryz.ntmps55
 go_wp2
 all_goals go_ret
 all_goals refine ⟨Qm ?_,HB⟩
 all_goals rw [HI.out]
 all_goals simp [*] <;> omega
def Xb (l:List Wr):Bool:=l.all fun x=>Ze x.val
def Qh (t:Tx):Bool :=
 idB t.ses t.seq && decide (t.rds.length<=6) && decide (t.wrs.length<=6) && !decide (t.rds.length+t.wrs.length=0) &&
  QB (QJ t) t.rds.length && QB (QT t) t.wrs.length && Xb t.wrs
set_option maxRecDepth 100000 in
theorem QdT (s t:ByteArray) (k:Int) (n:Nat) (ht:t.size<=9223372036854775807) (w:World) (hT:XT w):Calls Tryz.prog 138 #[.agg #[.string s,.int .i64 k,.int .u64 n,.string t]] w fun e w'=>e = .returned (.bool (!Ze ⟨k,n,t⟩))/\Below w.heap.size w w':=by
 obtain ⟨W,eW,HB,c0,c1,c2,c3⟩:=QeS w (.string s) (.int .i64 k) (.int .u64 n) (.string t) 79
 have hT:=hT.later HB
 go_enter Tryz.func138,Tryz.ntmps138
 go_wp2_with (go_at_call 139;refine (Ku k n t ht _ hT).mono ?_;rintro e w1 ⟨rfl,hb⟩;replace HB:=Qa HB hb)
 go_ret
 exact ⟨rfl,HB⟩
def QkY (w:World) (bad:Bool) (e:Ending) (w':World):Prop:=∃ z:Int,e = .returned (.int .i64 z)/\decide (0<=z)=bad/\Below w.heap.size w w'
theorem Qfw {l:List Wr} {k:Nat} {x:Wr} (hk:k<l.length) (h:l.getD k Zf=x) (hx:Ze x.val=false):Xb l=false:=by
 rw [List.getD_eq_getElem?_getD,List.getElem?_eq_getElem hk] at h
 simp only [Option.getD_some] at h
 unfold Xb
 rw [List.all_eq_false]
 exact ⟨l[k],List.getElem_mem hk,by rw [h,hx];simp⟩
theorem QdU {l:List Wr} {k:Nat} {x:Wr} (hk:k<l.length) (h:l.getD k Zf=x) (hx:Ze x.val=true) (ha:Xb (l.take k)=true):Xb (l.take (k+1))=true:=by
 rw [List.getD_eq_getElem?_getD,List.getElem?_eq_getElem hk] at h
 simp only [Option.getD_some] at h
 unfold Xb at *
 rw [List.take_succ_eq_append_getElem hk,List.all_append,ha,h]
 simp [hx]
set_option maxRecDepth 100000 in
theorem QkZ (l:List Wr) (A:Option Addr) (ca:Nat) (w:World) (hA:Yf w A l) (hv:∀ k,k<l.length->(l.getD k Zf).val.Good) (hn:l.length<=9223372036854775807) (hT:XT w) :
  Calls Tryz.prog 180 #[.slice A l.length ca,.func (.func 138) #[] #[]] w (QkY w (!Xb l)):=by
 go_enter Tryz.func180,Tryz.ntmps180
 go_wp2_with fail
 go_loopw [8] (fun i wr=>∃ k:Nat,k<=l.length/\i = .int .i64 k/\Hid (Xb (l.take k)=true)/\Below w.heap.size w wr) (fun i _=>l.length-(intOf i).toNat)
 case atStart=>exact ⟨0,Nat.zero_le _,rfl,rfl,Below.refl _ _⟩
 case round =>
  obtain ⟨k,hk,rfl,HA,hw⟩:=hrel
  have hr:=hA.later hw
  have hTr:=hT.later hw
  by_cases hlt:k<l.length
  ·obtain ⟨b,off,s,z,n,t,rfl,d0,d1,d2,d3,HX⟩:=hr.at' hlt
   have hg:=hv k hlt
   rw [HX.out] at hg
   have ht:t.size<=9223372036854775807:=hg.t
   clear hg
   cases hf:Ze ⟨z,n,t⟩
   ·have HF:Hid ((!Xb l)=true):=by show _=_;rw [Qfw hlt HX.out hf];rfl
    have hbad:(!Ze ⟨z,n,t⟩)=true:=by rw [hf];rfl
    go_wp2_with (go_at_call 138;refine (QdT s t z n ht _ hTr).mono ?_;rintro e w1 ⟨rfl,hb⟩;replace hw:=Qa hw hb)
    go_ret
    exact ⟨_,rfl,by rw [HF.out];simp,hw⟩
   ·have HF:Hid (Xb (l.take (k+1))=true):=QdU hlt HX.out hf HA.out
    have hbad:(!Ze ⟨z,n,t⟩)=false:=by rw [hf];rfl
    go_wp2_with (go_at_call 138;refine (QdT s t z n ht _ hTr).mono ?_;rintro e w1 ⟨rfl,hb⟩;replace hw:=Qa hw hb)
    go_roundw
    case rel=>exact ⟨k+1,by omega,by go_num,HF,hw⟩
    case measure=>simp [intOf];omega
  ·have ek:k=l.length:=by omega
   have HF:Hid ((!Xb l)=false):=by show _=_;have:=HA.out;rw [ek,List.take_length] at this;rw [this];rfl
   go_wp2
   go_ret
   exact ⟨_,rfl,by rw [HF.out];simp,hw⟩
set_option maxRecDepth 100000 in
theorem UM (l:List Wr) (A:Option Addr) (ca:Nat) (w:World) (hA:Yf w A l) (hv:∀ k,k<l.length->(l.getD k Zf).val.Good) (hn:l.length<=9223372036854775807) (hT:XT w) :
  Calls Tryz.prog 137 #[.slice A l.length ca,.func (.func 138) #[] #[]] w fun e w'=>e = .returned (.bool (!Xb l))/\Below w.heap.size w w':=by
 go_enter Tryz.func137,Tryz.ntmps137
 go_wp2_with (go_at_call 180;refine (QkZ l A ca _ hA hv hn hT).mono ?_;rintro e w1 ⟨z,rfl,hz,hb⟩;replace hz:=Lib.hid hz)
 go_ret
 exact ⟨Qm hz.out.symm,hb⟩
theorem Qk0 {w:World} {K:Option Addr} {L M:List ByteArray} (h:ZM w K (L ++ M)):ZM w K L:=by
 intro i hi
 obtain ⟨b,off,e,hc⟩:=h i (by rw [List.length_append];omega)
 refine ⟨b,off,e,?_⟩
 rw [hc]
 show some (Value.string ((L ++ M).getD i Qt))=some (Value.string (L.getD i Qt))
 rw [List.getD_eq_getElem?_getD,List.getD_eq_getElem?_getD,List.getElem?_append_left hi]
theorem Qjs {w:World} {b off:Nat} {L M:List ByteArray} (h:ZM w (some ⟨b,off,none⟩) (L ++ M)):ZM w (some ⟨b,off+L.length,none⟩) M:=by
 intro i hi
 obtain ⟨b',off',e,hc⟩:=h (L.length+i) (by rw [List.length_append];omega)
 injection e with e
 injection e with e1 e2
 subst e1 e2
 refine ⟨_,_,rfl,?_⟩
 rw [Nat.add_assoc,hc]
 show some (Value.string ((L ++ M).getD (L.length+i) Qt))=some (Value.string (M.getD i Qt))
 rw [List.getD_eq_getElem?_getD,List.getD_eq_getElem?_getD,List.getElem?_append_right (by omega),Nat.add_sub_cancel_left]
theorem Qjt {w:World} {t:Tx} {A B:Option Addr} (h:QY w t A B):∀ k,k<(QJ t).length->((QJ t).getD k Qt).size<=9223372036854775807:=by
 intro k hk
 have hk':k<t.rds.length:=by simpa [QJ] using hk
 have:=h.rk k hk'
 rw [List.getD_eq_getElem?_getD,List.getElem?_eq_getElem hk'] at this
 rw [List.getD_eq_getElem?_getD,List.getElem?_eq_getElem hk]
 simpa [QJ] using this
theorem Qju {w:World} {t:Tx} {A B:Option Addr} (h:QY w t A B):∀ k,k<(QT t).length->((QT t).getD k Qt).size<=9223372036854775807:=by
 intro k hk
 have hk':k<t.wrs.length:=by simpa [QT] using hk
 have:=h.wk k hk'
 rw [List.getD_eq_getElem?_getD,List.getElem?_eq_getElem hk'] at this
 rw [List.getD_eq_getElem?_getD,List.getElem?_eq_getElem hk]
 simpa [QT] using this
theorem Qu {P:Program} {f:FuncId} {args:Array Value} {w:World} {z x:Bool} (e:z=x)
  (h:Calls P f args w fun e w'=>e = .returned (.bool z)/\Below w.heap.size w w') :
  Calls P f args w fun e w'=>e = .returned (.bool x)/\Below w.heap.size w w':=by
 rw [e] at h;exact h
theorem QeX (t:Tx) (A B:Option Addr) (ca cb:Nat) (w:World) (h:QY w t A B) (hn:t.rds.length<=6) (hm:t.wrs.length<=6) (h0:¬ t.rds.length+t.wrs.length=0) :
  Calls Tryz.prog 135 #[XA t A B ca cb] w fun e w'=>∃ (b off ck:Nat),e = .returned (.slice (some ⟨b,off,none⟩) (t.rds.length+t.wrs.length) ck)/\t.rds.length+t.wrs.length<=ck/\ZM w' (some ⟨b,off,none⟩) (QJ t ++ QT t)/\Below w.heap.size w w':=by
 refine (QgY t A B ca cb w h hn hm).mono ?_
 rintro e w' ⟨K,ck,rfl,hck,hK,hb⟩
 have hl:(QJ t ++ QT t).length=t.rds.length+t.wrs.length:=by simp [QJ,QT]
 rw [hl] at hck ⊢
 obtain ⟨b,off,rfl,_⟩:=hK 0 (by omega)
 exact ⟨b,off,ck,rfl,hck,hK,hb⟩
theorem Qbe {t:Tx} {K:Option Addr} {ck:Nat} {w:World} (hK:ZM w K (QJ t ++ QT t)) (h6:t.rds.length<=6) (hs:∀ k,k<(QJ t).length->((QJ t).getD k Qt).size<=9223372036854775807) :
  Calls Tryz.prog 136 #[.slice K t.rds.length ck] w fun e w'=>e = .returned (.bool (QB (QJ t) (QJ t).length))/\Below w.heap.size w w':=by
 have hl:t.rds.length=(QJ t).length:=by simp [QJ]
 rw [hl]
 exact Qfv _ _ _ _ (Qk0 hK) (by omega) hs
theorem QaA {t:Tx} {b off ck:Nat} {w:World} (hK:ZM w (some ⟨b,off,none⟩) (QJ t ++ QT t)) (h6:t.wrs.length<=6) (hck:t.rds.length+t.wrs.length<=ck) (hs:∀ k,k<(QT t).length->((QT t).getD k Qt).size<=9223372036854775807) (m c:Nat) (K':Option Addr) (hm:m=t.wrs.length) (hK':K'=if ck=t.rds.length then some ⟨b,off,none⟩ else some ⟨b,off+t.rds.length,none⟩) :
  Calls Tryz.prog 136 #[.slice K' m c] w fun e w'=>e = .returned (.bool (QB (QT t) (QT t).length))/\Below w.heap.size w w':=by
 have hl:t.wrs.length=(QT t).length:=by simp [QT]
 have hl2:t.rds.length=(QJ t).length:=by simp [QJ]
 subst hm
 rw [hl]
 refine Qfv _ _ _ _ ?_ (by omega) hs
 subst hK'
 split
 ·intro i hi
  omega
 ·rw [hl2]
  exact Qjs hK
set_option maxRecDepth 100000 in
set_option maxHeartbeats 2000000 in
theorem YM (t:Tx) (A B:Option Addr) (ca cb:Nat) (w:World) (h:QY w t A B) (hT:XT w) :
  Calls Tryz.prog 81 #[XA t A B ca cb] w fun e w'=>e = .returned (.bool (Qh t))/\Below w.heap.size w w':=by
 unfold XA
 obtain ⟨W,eW,HB,c0,c1,c2,c3⟩:=QeS w (.int .i64 t.ses) (.int .i64 t.seq) (.slice A t.rds.length ca) (.slice B t.wrs.length cb) 38
 have h:=h.later HB
 have hT:=hT.later HB
 have HS1:=Lib.hid (Qjt h)
 have HS2:=Lib.hid (Qju h)
 have HE:Hid (Qh t=(idB t.ses t.seq && decide (t.rds.length<=6) && decide (t.wrs.length<=6) && !decide (t.rds.length+t.wrs.length=0) && QB (QJ t) (QJ t).length && QB (QT t) (QT t).length && Xb t.wrs)):=by
  show _=_
  rw [Qh,show (QJ t).length=t.rds.length by simp [QJ],show (QT t).length=t.wrs.length by simp [QT]]
 have hrn:=h.rn
 have hwn:=h.wn
 cases hid:idB t.ses t.seq
 ·have HF:Hid (Qh t=false):=by show _=_;rw [HE.out,hid];simp
  go_enter Tryz.func81,Tryz.ntmps81
  go_wp2_with (go_at_call 82;refine (Kv _ _ _).mono ?_;rintro e w1 ⟨rfl,hb⟩;replace HB:=Qa HB hb)
  go_ret
  exact ⟨Qm HF.out,HB⟩
 ·by_cases hn:t.rds.length<=6
  ·by_cases hm:t.wrs.length<=6
   ·by_cases h0:t.rds.length+t.wrs.length=0
    ·have HF:Hid (Qh t=false):=by show _=_;rw [HE.out];simp [h0]
     have h0':((t.rds.length:Int)+(t.wrs.length:Int) == 0)=true:=by simp;omega
     go_enter Tryz.func81,Tryz.ntmps81
     go_wp2_with (go_at_call 82;refine (Kv _ _ _).mono ?_;rintro e w1 ⟨rfl,hb⟩;replace c2:=keep hb c2;replace c3:=keep hb c3;replace HB:=Qa HB hb)
     go_ret
     exact ⟨Qm HF.out,HB⟩
    ·have HF:Hid (Qh t=(QB (QJ t) (QJ t).length && QB (QT t) (QT t).length && Xb t.wrs)):=by
      show _=_
      rw [HE.out,hid,decide_eq_true hn,decide_eq_true hm,decide_eq_false h0]
      simp
     have h0':((t.rds.length:Int)+(t.wrs.length:Int) == 0)=false:=by simp;omega
     have h0n:=Lib.hid h0
     clear h0
     obtain ⟨r1,hr1⟩:∃ r,Hid (QB (QJ t) (QJ t).length=r):=⟨_,rfl⟩
     obtain ⟨r2,hr2⟩:∃ r,Hid (QB (QT t) (QT t).length=r):=⟨_,rfl⟩
     obtain ⟨r3,hr3⟩:∃ r,Hid ((!Xb t.wrs)=r):=⟨_,rfl⟩
     have hvv:Xb t.wrs = !r3:=by rw [<- hr3.out];simp
     replace HF:=Lib.hid HF.out
     rw [hr1.out,hr2.out,hvv] at HF
     clear hvv
     have hcase:r1=false \/ (r1=true/\r2=false) \/ (r1=true/\r2=true):=by cases r1 <;> cases r2 <;> simp
     rcases hcase with rfl | ⟨rfl,rfl⟩ | ⟨rfl,rfl⟩
     ·replace HF:=Lib.hid (show Qh t=false by rw [HF.out];simp)
      go_enter Tryz.func81,Tryz.ntmps81
      go_wp2_with (first
       | (go_at_call 82;refine (Kv _ _ _).mono ?_;rintro e w1 ⟨rfl,hb⟩;replace c0:=keep hb c0;replace c1:=keep hb c1;replace c2:=keep hb c2;replace c3:=keep hb c3;replace h:=h.later hb;replace hT:=hT.later hb;replace HB:=Qa HB hb;clear hb)
       | (go_at_call 135;refine (QeX t A B ca cb _ h hn hm h0n.out).mono ?_;rintro e w2 ⟨bk,ok,ck,rfl,hck,hK,hb⟩;replace c2:=keep hb c2;replace c3:=keep hb c3;replace h:=h.later hb;replace hT:=hT.later hb;replace HB:=Qa HB hb;clear hb;have hck':t.rds.length<=ck:=(by omega))
       | (go_at_call 136;refine (Qu hr2.out (QaA hK hm hck HS2.out _ _ _ (by omega) (by rfl))).mono ?_;rintro e w4 ⟨rfl,hb⟩;replace c3:=keep hb c3;replace h:=h.later hb;replace hT:=hT.later hb;replace HB:=Qa HB hb;clear hb)
       | (go_at_call 136;refine (Qu hr1.out (Qbe hK hn HS1.out)).mono ?_;rintro e w3 ⟨rfl,hb⟩;replace c3:=keep hb c3;replace h:=h.later hb;replace hT:=hT.later hb;replace hK:=QI.later hK hb;replace HB:=Qa HB hb;clear hb)
       | (go_at_call 137;refine (Qu hr3.out (UM t.wrs B cb _ h.wrs h.wv h.wn hT)).mono ?_;rintro e w5 ⟨rfl,hb⟩;replace HB:=Qa HB hb;clear hb))
      all_goals go_ret
      all_goals exact ⟨Qm HF.out,HB⟩
     ·replace HF:=Lib.hid (show Qh t=false by rw [HF.out];simp)
      go_enter Tryz.func81,Tryz.ntmps81
      go_wp2_with (first
       | (go_at_call 82;refine (Kv _ _ _).mono ?_;rintro e w1 ⟨rfl,hb⟩;replace c0:=keep hb c0;replace c1:=keep hb c1;replace c2:=keep hb c2;replace c3:=keep hb c3;replace h:=h.later hb;replace hT:=hT.later hb;replace HB:=Qa HB hb;clear hb)
       | (go_at_call 135;refine (QeX t A B ca cb _ h hn hm h0n.out).mono ?_;rintro e w2 ⟨bk,ok,ck,rfl,hck,hK,hb⟩;replace c2:=keep hb c2;replace c3:=keep hb c3;replace h:=h.later hb;replace hT:=hT.later hb;replace HB:=Qa HB hb;clear hb;have hck':t.rds.length<=ck:=(by omega))
       | (go_at_call 136;refine (Qu hr2.out (QaA hK hm hck HS2.out _ _ _ (by omega) (by rfl))).mono ?_;rintro e w4 ⟨rfl,hb⟩;replace c3:=keep hb c3;replace h:=h.later hb;replace hT:=hT.later hb;replace HB:=Qa HB hb;clear hb)
       | (go_at_call 136;refine (Qu hr1.out (Qbe hK hn HS1.out)).mono ?_;rintro e w3 ⟨rfl,hb⟩;replace c3:=keep hb c3;replace h:=h.later hb;replace hT:=hT.later hb;replace hK:=QI.later hK hb;replace HB:=Qa HB hb;clear hb)
       | (go_at_call 137;refine (Qu hr3.out (UM t.wrs B cb _ h.wrs h.wv h.wn hT)).mono ?_;rintro e w5 ⟨rfl,hb⟩;replace HB:=Qa HB hb;clear hb))
      all_goals go_ret
      all_goals exact ⟨Qm HF.out,HB⟩
     ·cases r3
      all_goals
       go_enter Tryz.func81,Tryz.ntmps81
       go_wp2_with (first
        | (go_at_call 82;refine (Kv _ _ _).mono ?_;rintro e w1 ⟨rfl,hb⟩;replace c0:=keep hb c0;replace c1:=keep hb c1;replace c2:=keep hb c2;replace c3:=keep hb c3;replace h:=h.later hb;replace hT:=hT.later hb;replace HB:=Qa HB hb;clear hb)
        | (go_at_call 135;refine (QeX t A B ca cb _ h hn hm h0n.out).mono ?_;rintro e w2 ⟨bk,ok,ck,rfl,hck,hK,hb⟩;replace c2:=keep hb c2;replace c3:=keep hb c3;replace h:=h.later hb;replace hT:=hT.later hb;replace HB:=Qa HB hb;clear hb;have hck':t.rds.length<=ck:=(by omega))
        | (go_at_call 136;refine (Qu hr2.out (QaA hK hm hck HS2.out _ _ _ (by omega) (by rfl))).mono ?_;rintro e w4 ⟨rfl,hb⟩;replace c3:=keep hb c3;replace h:=h.later hb;replace hT:=hT.later hb;replace HB:=Qa HB hb;clear hb)
        | (go_at_call 136;refine (Qu hr1.out (Qbe hK hn HS1.out)).mono ?_;rintro e w3 ⟨rfl,hb⟩;replace c3:=keep hb c3;replace h:=h.later hb;replace hT:=hT.later hb;replace hK:=QI.later hK hb;replace HB:=Qa HB hb;clear hb)
        | (go_at_call 137;refine (Qu hr3.out (UM t.wrs B cb _ h.wrs h.wv h.wn hT)).mono ?_;rintro e w5 ⟨rfl,hb⟩;replace HB:=Qa HB hb;clear hb))
       all_goals go_ret
       all_goals exact ⟨Qm HF.out,HB⟩
   ·have HF:Hid (Qh t=false):=by show _=_;rw [HE.out];simp [hm]
    go_enter Tryz.func81,Tryz.ntmps81
    go_wp2_with (go_at_call 82;refine (Kv _ _ _).mono ?_;rintro e w1 ⟨rfl,hb⟩;replace c2:=keep hb c2;replace c3:=keep hb c3;replace HB:=Qa HB hb)
    go_ret
    exact ⟨Qm HF.out,HB⟩
  ·have HF:Hid (Qh t=false):=by show _=_;rw [HE.out];simp [hn]
   go_enter Tryz.func81,Tryz.ntmps81
   go_wp2_with (go_at_call 82;refine (Kv _ _ _).mono ?_;rintro e w1 ⟨rfl,hb⟩;replace c2:=keep hb c2;replace c3:=keep hb c3;replace HB:=Qa HB hb)
   go_ret
   exact ⟨Qm HF.out,HB⟩
theorem QcQ (s q s' q':Int) (w:World):Calls Tryz.prog 17 #[.agg #[.int .i64 s,.int .i64 q],.agg #[.int .i64 s',.int .i64 q']] w fun e w'=>e = .returned (.bool (QbS s q s' q'))/\Below w.heap.size w w':=by
 have HI:Hid (QbS s q s' q'=(decide (s<s') || (decide (s=s') && decide (q<q')))):=rfl
 go_enter Tryz.func17,Tryz.ntmps17
 go_wp2
 all_goals go_ret
 all_goals refine ⟨Qm ?_,ZL _ _ _⟩
 all_goals rw [HI.out]
 all_goals simp_all
end Go.Proofs.YtcldpmkhpmlcbaaGreatDoor
