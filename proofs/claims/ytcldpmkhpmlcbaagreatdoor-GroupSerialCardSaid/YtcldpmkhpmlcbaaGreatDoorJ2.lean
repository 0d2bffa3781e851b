/- part -/
import Derived.Test.YtcldpmkhpmlcbaaGreatDoorJ1
import Derived.Maps.Own
import Derived.Maps.RangeWalk
import Derived.Maps.OwnSet
import Derived.Maps.Ext
import Derived.DeepKeys4
import Derived.Laws.CopyOwn
import Derived.Lib.AppendZerosOnto
import Derived.Lib.AppendZeros
import Derived.Lib.Overlaps
set_option linter.unusedVariables false
set_option linter.unusedSimpArgs false
namespace Go.Proofs.YtcldpmkhpmlcbaaGreatDoor
open Go.RowKit
structure Qg (O:Nat->Prop) (w w':World):Prop where
 os:w'.os=w.os
 tape:w'.tape=w.tape
 output:w'.output=w.output
 size:w.heap.size<=w'.heap.size
 block:∀ k,k<w.heap.size->¬ O k->w'.heap[k]? = w.heap[k]?
def ext (O:Nat->Prop) (w w':World) (k:Nat):Prop:=O k \/ (w.heap.size<=k/\k<w'.heap.size)
theorem Qg.refl (O:Nat->Prop) (w:World):Qg O w w:=⟨rfl,rfl,rfl,Nat.le_refl _,fun _ _ _=>rfl⟩
theorem Qg.trans {O:Nat->Prop} {w w1 w2:World} (h:Qg O w w1) (h':Qg (ext O w w1) w1 w2):Qg O w w2 :=
 ⟨h'.os.trans h.os,h'.tape.trans h.tape,h'.output.trans h.output,Nat.le_trans h.size h'.size,fun k hk ho=>by
  rw [h'.block k (Nat.lt_of_lt_of_le hk h.size) (fun e=>e.elim ho (fun e=>by omega)),h.block k hk ho]⟩
theorem Qg.trans' {O:Nat->Prop} {w w1 w2:World} (h:Qg O w w1) (h':Qg O w1 w2):Qg O w w2 :=
 ⟨h'.os.trans h.os,h'.tape.trans h.tape,h'.output.trans h.output,Nat.le_trans h.size h'.size,fun k hk ho=>by
  rw [h'.block k (Nat.lt_of_lt_of_le hk h.size) ho,h.block k hk ho]⟩
theorem Qg.mono {O O':Nat->Prop} {w w':World} (h:Qg O w w') (hs:∀ k,O k->O' k):Qg O' w w' :=
 ⟨h.os,h.tape,h.output,h.size,fun k hk ho=>h.block k hk (fun e=>ho (hs k e))⟩
theorem Qg.of_below {O:Nat->Prop} {w w':World} (h:Below w.heap.size w w'):Qg O w w':=⟨h.os,h.tape,h.output,h.size,fun k hk _=>h.block k hk⟩
theorem Qg.of_grown {O:Nat->Prop} {w w':World} {row:Option Nat} (h:w.grownBy w' row) (hr:∀ k,row=some k->O k):Qg O w w' :=
 ⟨h.os,h.tape,h.output,h.size,fun k hk ho=>h.block k hk (fun e=>ho (hr k e.symm))⟩
theorem Qg.below {O:Nat->Prop} {w w':World} {B:Nat} (h:Qg O w w') (hB:B<=w.heap.size) (ho:∀ k,O k->B<=k):Below B w w' :=
 ⟨h.os,h.tape,h.output,h.size,fun k hk=>h.block k (Nat.lt_of_lt_of_le hk hB) (fun e=>by have:=ho k e;omega)⟩
theorem Yc {w:World} {a:Addr} {v:Value} (h:w.cell? a=some v):a.block<w.heap.size:=by
 rcases Nat.lt_or_ge a.block w.heap.size with q | q
 ·exact q
 ·exfalso
  have:w.heap[a.block]? = none:=Array.getElem?_eq_none q
  simp [World.cell?,this] at h
theorem Qg.cell {O:Nat->Prop} {w w':World} {a:Addr} {v:Value} (h:Qg O w w') (hc:w.cell? a=some v) (ho:¬ O a.block):w'.cell? a=some v:=by
 rw [World.cell?_of_block (h.block a.block (Yc hc) ho)];exact hc
theorem Qg.obj {O:Nat->Prop} {w w':World} {g:Nat} {o:Obj} (h:Qg O w w') (hc:w.heap[g]? = some o) (ho:¬ O g):w'.heap[g]? = some o:=by
 rw [h.block g (Array.getElem?_eq_some_iff.1 hc).1 ho];exact hc
theorem Qg.row {O:Nat->Prop} {w w':World} {base n size:Nat} {e:TypeId} {v:Value} {xs:List Value} (h:Qg O w w') (hr:w.ownsRow base e size v n xs) (ho:∀ g,v.ownBlock=some g->¬ O g):w'.ownsRow base e size v n xs:=by
 refine ⟨hr.1,?_⟩
 rcases hr.2 with h2 | ⟨g,cap,cur,rfl,hg,hh,r⟩
 ·exact .inl h2
 ·exact .inr ⟨g,cap,cur,rfl,hg,h.obj hh (ho g rfl),r⟩
theorem Qg.map {H:Type} {P:Program} {k:TypeId} {R:Value->Option (DataW H × List MemPlace)} {O:Nat->Prop} {w w':World} {b n:Nat} {D:DataW H} (h:Qg O w w') (hm:w.ownsMap P k R b n D) (ho:¬ O b):w'.ownsMap P k R b n D:=by
 obtain ⟨es,clock,hb,r⟩:=hm
 exact ⟨es,clock,h.obj hb ho,r⟩
theorem QaM {w:World} {base n size:Nat} {e:TypeId} {v:Value} {xs:List Value} (h:w.ownsRow base e size v n xs) {g:Nat} (hg:v.ownBlock=some g):base<=g/\g<w.heap.size:=h.lt g hg
theorem QnF {O:Nat->Prop} {w w1 w2:World} (h1:w.heap.size<=w1.heap.size) (h2:w1.heap.size<=w2.heap.size) (k:Nat):ext (ext O w w1) w1 w2 k ↔ ext O w w2 k:=by
 unfold ext
 constructor
 ·rintro ((h | h) | h)
  ·exact .inl h
  ·exact .inr ⟨h.1,by omega⟩
  ·exact .inr ⟨by omega,h.2⟩
 ·rintro (h | h)
  ·exact .inl (.inl h)
  ·by_cases hk:k<w1.heap.size
   ·exact .inl (.inr ⟨h.1,hk⟩)
   ·exact .inr ⟨by omega,h.2⟩
theorem QI.out {O:Nat->Prop} {w w':World} {A:Option Addr} {n:Nat} {f:Nat->Value} (h:QI w A n f) (hb:Qg O w w') (ho:∀ a,A=some a->¬ O a.block):QI w' A n f:=by
 intro i hi
 obtain ⟨b,off,e,hc⟩:=h i hi
 exact ⟨b,off,e,hb.cell hc (ho ⟨b,off,none⟩ e)⟩
structure Qp where
 ses:Int
 seq:Int
deriving DecidableEq
def Qop:Qp:=⟨0,0⟩
instance:Inhabited Qp:=⟨Qop⟩
def Qp.v (i:Qp):Value:=.agg #[.int .i64 i.ses,.int .i64 i.seq]
structure Qz where
 id:Qp
 gs:List Int
 own:Nat
 known:List (Int × Nat)
 final:Bool
def XY:Qz:=⟨Qop,[],0,[],false⟩
instance:Inhabited Qz:=⟨XY⟩
structure QD where
 g:Int
 clock:Nat
 l:List Qz
def YF:Nat:=4611686018427387904
def JC (k:List (Int × Nat)) (s:Nat):Nat:=k.foldl (fun s x=>max s x.2) s
def Qz.stamp (o:Qz):Nat:=if o.final then JC o.known o.own else o.own
def YG (a b:Qp):Bool:=decide (a.ses<b.ses) || (decide (a.ses=b.ses) && decide (a.seq<b.seq))
def X2 (a b:Qz):Bool:=decide (a.stamp<b.stamp) || (decide (a.stamp=b.stamp) && YG a.id b.id)
def XK (a b:Qz):Bool:=!X2 b a
def QbJ (a b:Qz):Int:=if a.stamp<b.stamp then -1 else if b.stamp<a.stamp then 1 else if YG a.id b.id then -1 else 1
def Je (l:List Qz):List Qz:=l.mergeSort XK
theorem Qfn (a:Qp):YG a a=false:=by simp [YG]
theorem QcL {a b c:Qp} (h1:YG a b=true) (h2:YG b c=true):YG a c=true:=by
 simp only [YG,Bool.or_eq_true,Bool.and_eq_true,decide_eq_true_eq] at *
 omega
theorem Qfo {a b:Qp} (h1:YG a b=false) (h2:YG b a=false):a=b:=by
 obtain ⟨a1,a2⟩:=a
 obtain ⟨b1,b2⟩:=b
 simp only [YG,Bool.or_eq_false_iff,Bool.and_eq_false_iff,decide_eq_false_iff_not] at *
 have:a1=b1:=by omega
 have:a2=b2:=by omega
 subst_vars
 rfl
theorem Vw {a b:Qz}:X2 a b=true ↔ a.stamp<b.stamp \/ (a.stamp=b.stamp/\YG a.id b.id=true):=by
 simp [X2]
theorem QiF (a:Qz):X2 a a=false:=by
 cases h:X2 a a
 ·rfl
 ·rw [Vw] at h
  rcases h with h | ⟨_,h⟩
  ·omega
  ·rw [Qfn] at h;cases h
theorem QbK {a b c:Qz} (h1:X2 a b=true) (h2:X2 b c=true):X2 a c=true:=by
 rw [Vw] at *
 rcases h1 with h1 | ⟨e1,h1⟩ <;> rcases h2 with h2 | ⟨e2,h2⟩
 ·left;omega
 ·left;omega
 ·left;omega
 ·right;exact ⟨by omega,QcL h1 h2⟩
theorem Qmw {a b:Qz} (h:X2 a b=true):X2 b a=false:=by
 cases h2:X2 b a
 ·rfl
 ·rw [<- QiF a,QbK h h2]
theorem Qcv {a b:Qz} (h1:X2 a b=false) (h2:X2 b a=false):a.stamp=b.stamp/\a.id=b.id:=by
 have h3:¬ (a.stamp<b.stamp \/ (a.stamp=b.stamp/\YG a.id b.id=true)):=fun h=>by rw [Vw.2 h] at h1;cases h1
 have h4:¬ (b.stamp<a.stamp \/ (b.stamp=a.stamp/\YG b.id a.id=true)):=fun h=>by rw [Vw.2 h] at h2;cases h2
 have e:a.stamp=b.stamp:=by omega
 refine ⟨e,Qfo ?_ ?_⟩
 ·cases q:YG a.id b.id
  ·rfl
  ·exact absurd (.inr ⟨e,q⟩) h3
 ·cases q:YG b.id a.id
  ·rfl
  ·exact absurd (.inr ⟨e.symm,q⟩) h4
theorem QnG (a b:Qz):decide (QbJ a b<0)=X2 a b:=by
 unfold QbJ X2
 by_cases h1:a.stamp<b.stamp
 ·simp [h1]
 ·by_cases h2:b.stamp<a.stamp
  ·have:¬ a.stamp=b.stamp:=by omega
   simp [h1,h2,this]
  ·have e:a.stamp=b.stamp:=by omega
   cases q:YG a.id b.id <;> simp [h1,h2,e,q]
theorem QbL (a b c:Qz) (h1:XK a b=true) (h2:XK b c=true):XK a c=true:=by
 simp only [XK,Bool.not_eq_true'] at *
 cases h3:X2 c a
 ·rfl
 ·exfalso
  cases h4:X2 a b
  ·have e:=Qcv h4 h1
   have:X2 c b=true:=by
    rw [Vw] at h3 ⊢
    rw [<- e.1, <- e.2];exact h3
   rw [this] at h2;cases h2
  ·rw [QbK h3 h4] at h2;cases h2
theorem U9 (a b:Qz):(XK a b || XK b a)=true:=by
 simp only [XK,Bool.or_eq_true,Bool.not_eq_true']
 cases h:X2 b a
 ·exact .inl rfl
 ·exact .inr (Qmw h)
theorem Zz (l:List Qz):(Je l).Perm l:=List.mergeSort_perm _ _
theorem Qfp (l:List Qz):(Je l).length=l.length:=(Zz l).length_eq
theorem K6 (l:List Qz):(Je l).Pairwise (fun a b=>XK a b=true):=List.pairwise_mergeSort (le:=XK) QbL U9 _
theorem QkD {l m:List Qz} (hp:l.Perm m) (hl:l.Pairwise (fun a b=>XK a b=true)) (hm:m.Pairwise (fun a b=>XK a b=true)) (hn:(l.map Qz.id).Nodup):l=m:=by
 apply hp.eq_of_pairwise (le:=fun a b=>XK a b=true) _ hl hm
 intro a b ha hb h1 h2
 simp only [XK,Bool.not_eq_true'] at h1 h2
 have e:=(Qcv h2 h1).2
 have hb':b ∈ l:=hp.mem_iff.2 hb
 obtain ⟨i,hi,rfl⟩:=List.mem_iff_getElem.1 ha
 obtain ⟨j,hj,rfl⟩:=List.mem_iff_getElem.1 hb'
 have:=List.pairwise_iff_getElem.1 hn
 by_cases hij:i=j
 ·subst hij;rfl
 ·exfalso
  rcases Nat.lt_or_gt_of_ne hij with q | q
  ·exact this i j (by simpa using hi) (by simpa using hj) q (by simp [e])
  ·exact this j i (by simpa using hj) (by simpa using hi) q (by simp [e])
def QbM (i:Qp):Bool:=decide (1<=i.ses) && decide (i.ses<=8) && decide (1<=i.seq) && decide (i.seq<=1048576)
def J8 (gs:List Int):Nat->Bool
 | 0=>true
 | k+1=>J8 gs k && (decide (0<=gs.getD k 0) && decide (gs.getD k 0<4) && (k == 0 || decide (gs.getD (k-1) 0<gs.getD k 0)))
def Yy (g:Int) (gs:List Int):Bool:=J8 gs gs.length && gs.contains g
def ZA (l:List Qz) (i:Qp):Nat:=l.findIdx fun o=>decide (o.id=i)
def Zn (q:QD) (i:Qp):Bool:=decide (ZA q.l i<q.l.length)
def Zo (q:QD) (i:Qp):Qz:=q.l.getD (ZA q.l i) XY
def Ks (q:QD) (i:Qp) (gs:List Int):Qz:=⟨i,gs,q.clock+1,[],decide (gs.length=1)⟩
def Ys (q:QD) (i:Qp) (gs:List Int):Int:=if (QbM i && Yy q.g gs)=false then 2 else if Zn q i=true then 11 else if YF<=q.clock then 7 else 0
def QG (q:QD) (i:Qp) (gs:List Int):QD:=if Ys q i gs=0 then ⟨q.g,q.clock+1,Je (q.l ++ [Ks q i gs])⟩ else q
def ZG (k:List (Int × Nat)) (g:Int):Bool:=k.any fun x=>decide (x.1=g)
def QP (o:Qz) (g:Int) (s:Nat):Qz:={ o with known:=o.known ++ [(g,s)],final:=decide (o.known.length+1+1=o.gs.length) }
def ZQ (q:QD) (i:Qp) (g:Int) (s:Nat):Nat :=
 if Zn q i=false then 6 else if (decide (g=q.g) || !(Zo q i).gs.contains g || decide (s<1) || decide (YF<s))=true then 1 else if ZG (Zo q i).known g=true then 0 else 2
def YL (q:QD) (i:Qp) (g:Int) (s:Nat):Int:=match ZQ q i g s with | 6=>6 | 1=>1 | _=>0
def QZ (q:QD) (i:Qp) (g:Int) (s:Nat):QD :=
 if ZQ q i g s=2 then
  let o:=QP (Zo q i) g s
  ⟨q.g,if o.final then max q.clock o.stamp else q.clock,Je (q.l.set (ZA q.l i) o)⟩
 else q
def Z2 (q:QD):Option (Qp × Nat):=match q.l with | []=>none | o :: _=>if o.final then some (o.id,o.stamp) else none
def YV (q:QD):QD:={ q with l:=q.l.drop 1 }
structure Qaa (q:QD) (o:Qz):Prop where
 id:QbM o.id=true
 gs:Yy q.g o.gs=true
 own:1<=o.own/\o.own<=q.clock
 kn:∀ x ∈ o.known,x.1 ≠ q.g/\o.gs.contains x.1=true/\1<=x.2/\x.2<=YF
 nd:(o.known.map (·.1)).Nodup
 fin:o.final=decide (o.known.length+1=o.gs.length)
 top:o.final=true->o.stamp<=q.clock
structure Jc (q:QD):Prop where
 g:0<=q.g/\q.g<4
 cl:q.clock<=YF
 one:∀ o ∈ q.l,Qaa q o
 nd:(q.l.map Qz.id).Nodup
 so:q.l.Pairwise (fun a b=>XK a b=true)
def q0 (g:Int):QD:=⟨g,0,[]⟩
theorem Qo0 {g:Int} (h:0<=g/\g<4):Jc (q0 g):=⟨h,Nat.zero_le _,fun _ h=>(by cases h),List.Pairwise.nil,List.Pairwise.nil⟩
theorem QaN {k:List (Int × Nat)}:∀ {s:Nat},s<=JC k s:=by
 induction k with
 | nil=>intro s;exact Nat.le_refl _
 | cons x k ih=>intro s;exact Nat.le_trans (Nat.le_max_left s x.2) (ih (s:=max s x.2))
theorem QbN (o:Qz):o.own<=o.stamp:=by
 unfold Qz.stamp
 split
 ·exact QaN
 ·exact Nat.le_refl _
theorem QgH {l:List Qz} {i:Qp} (h:ZA l i<l.length):(l.getD (ZA l i) XY).id=i:=by
 have h2:=List.findIdx_getElem (w:=h)
 rw [List.getD_eq_getElem?_getD,List.getElem?_eq_getElem h]
 exact of_decide_eq_true h2
theorem Qmx {l:List Qz} {i:Qp} (h:¬ ZA l i<l.length):∀ o ∈ l,o.id ≠ i:=by
 intro o ho e
 apply h
 rw [ZA,List.findIdx_lt_length]
 exact ⟨o,ho,by simp [e]⟩
theorem Xt {q:QD} {i:Qp} (h:Zn q i=true):ZA q.l i<q.l.length/\(Zo q i).id=i/\Zo q i ∈ q.l:=by
 have h1:ZA q.l i<q.l.length:=by simpa [Zn] using h
 refine ⟨h1,QgH h1,?_⟩
 unfold Zo
 rw [List.getD_eq_getElem?_getD,List.getElem?_eq_getElem h1]
 exact List.getElem_mem h1
theorem QiG {q:QD} {i:Qp} (h:Zn q i=false):∀ o ∈ q.l,o.id ≠ i:=Qmx (by simpa [Zn] using h)
theorem Qa4 {k:List (Int × Nat)} {m:Nat}:∀ {s:Nat},s<=m->(∀ x ∈ k,x.2<=m)->JC k s<=m:=by
 induction k with
 | nil=>intro s h _;exact h
 | cons x k ih =>
  intro s h hk
  exact ih (s:=max s x.2) (Nat.max_le.2 ⟨h,hk x (List.mem_cons_self ..)⟩) fun y hy=>hk y (List.mem_cons_of_mem _ hy)
theorem Qaa.more {q:QD} {o:Qz} (h:Qaa q o) {q':QD} (hg:q'.g=q.g) (hc:q.clock<=q'.clock):Qaa q' o :=
 ⟨h.id,by rw [hg];exact h.gs,⟨h.own.1,Nat.le_trans h.own.2 hc⟩,fun x hx=>by rw [hg];exact h.kn x hx,h.nd,h.fin,fun e=>Nat.le_trans (h.top e) hc⟩
theorem Qc9 {q:QD} (h:Jc q) (i:Qp) (gs:List Int):Jc (QG q i gs):=by
 rw [QG]
 split
 ·rename_i e
  unfold Ys at e
  split at e;· cases e
  rename_i e1
  split at e;· cases e
  rename_i e2
  split at e;· cases e
  rename_i e3
  simp only [Bool.and_eq_false_iff,not_or,Bool.not_eq_false] at e1
  have hno:=QiG (by simpa using e2)
  refine ⟨h.g,by show q.clock+1<=YF;omega,fun o ho=>?_,?_,K6 _⟩
  ·have ho':=(Zz _).mem_iff.1 ho
   rcases List.mem_append.1 ho' with ho' | ho'
   ·exact (h.one o ho').more rfl (Nat.le_succ _)
   ·rw [List.mem_singleton.1 ho']
    exact ⟨e1.1,e1.2,⟨Nat.succ_le_succ (Nat.zero_le _),Nat.le_refl _⟩,fun x hx=>(by cases hx),List.Pairwise.nil,by simp [Ks,eq_comm],fun _=>by simp [Ks,Qz.stamp,JC]⟩
  ·refine (((Zz (q.l ++ [Ks q i gs])).map Qz.id).nodup_iff).2 ?_
   rw [List.map_append,List.nodup_append]
   refine ⟨h.nd,by simp,fun a ha b hb=>?_⟩
   obtain ⟨o,ho,rfl⟩:=List.mem_map.1 ha
   simp only [List.map_cons,List.map_nil,List.mem_singleton] at hb
   rw [hb]
   exact hno o ho
 ·exact h
theorem QiH {l:List Qz} {k:Nat} {o:Qz} (hk:k<l.length) (ho:o.id=(l.getD k XY).id):(l.set k o).map Qz.id=l.map Qz.id:=by
 rw [List.map_set,ho]
 have:(l.getD k XY).id=(l.map Qz.id)[k]'(by simpa using hk):=by
  rw [List.getElem_map,List.getD_eq_getElem?_getD,List.getElem?_eq_getElem hk];rfl
 rw [this]
 exact List.set_getElem_self _
theorem Qa5 {q:QD} (h:Jc q) (i:Qp) (g:Int) (s:Nat):Jc (QZ q i g s):=by
 rw [QZ]
 split
 ·rename_i e
  unfold ZQ at e
  split at e;· cases e
  rename_i e1
  split at e;· cases e
  rename_i e2
  split at e;· cases e
  rename_i e3
  have e1':Zn q i=true:=by simpa using e1
  obtain ⟨hk,hid,hm⟩:=Xt e1'
  have hone:=h.one _ hm
  simp only [Bool.or_eq_true,decide_eq_true_eq,Bool.not_eq_true',not_or] at e2
  obtain ⟨⟨⟨g1,g2⟩,g3⟩,g4⟩:=e2
  generalize hO:Zo q i=o0 at *
  have hstamp:(QP o0 g s).stamp<=max (JC (o0.known ++ [(g,s)]) o0.own) o0.own:=by
   unfold Qz.stamp QP
   simp only
   split
   ·exact Nat.le_max_left _ _
   ·exact Nat.le_max_right _ _
  have hmost:(QP o0 g s).stamp<=YF:=by
   refine Nat.le_trans hstamp (Nat.max_le.2 ⟨Qa4 (Nat.le_trans hone.own.2 h.cl) fun x hx=>?_,Nat.le_trans hone.own.2 h.cl⟩)
   rcases List.mem_append.1 hx with hx | hx
   ·exact (hone.kn x hx).2.2.2
   ·rw [List.mem_singleton.1 hx];show s<=YF;omega
  refine ⟨h.g,?_,fun o ho=>?_,?_,K6 _⟩
  ·show (if (QP o0 g s).final=true then max q.clock (QP o0 g s).stamp else q.clock)<=YF
   split
   ·exact Nat.max_le.2 ⟨h.cl,hmost⟩
   ·exact h.cl
  ·have hc:q.clock<=(if (QP o0 g s).final=true then max q.clock (QP o0 g s).stamp else q.clock):=by
    split
    ·exact Nat.le_max_left _ _
    ·exact Nat.le_refl _
   rcases List.mem_or_eq_of_mem_set ((Zz _).mem_iff.1 ho) with ho | ho
   ·exact (h.one o ho).more rfl hc
   ·rw [ho]
    refine ⟨hone.id,hone.gs,⟨hone.own.1,Nat.le_trans hone.own.2 hc⟩,fun x hx=>?_,?_,?_,fun hf=>?_⟩
    ·rcases List.mem_append.1 hx with hx | hx
     ·exact hone.kn x hx
     ·rw [List.mem_singleton.1 hx]
      exact ⟨g1,by cases q2:o0.gs.contains g;exact absurd q2 g2;exact q2,by show 1<=s;omega,by show s<=YF;omega⟩
    ·show ((o0.known ++ [(g,s)]).map (·.1)).Nodup
     rw [List.map_append,List.nodup_append]
     refine ⟨hone.nd,by simp,fun a ha b hb=>?_⟩
     obtain ⟨y,hy,rfl⟩:=List.mem_map.1 ha
     simp only [List.map_cons,List.map_nil,List.mem_singleton] at hb
     rw [hb]
     intro e4
     apply e3
     rw [ZG,List.any_eq_true]
     exact ⟨y,hy,by simpa using e4⟩
    ·show decide (o0.known.length+1+1=o0.gs.length)=decide ((o0.known ++ [(g,s)]).length+1=o0.gs.length)
     rw [List.length_append];rfl
    ·show (QP o0 g s).stamp<=if (QP o0 g s).final=true then max q.clock (QP o0 g s).stamp else q.clock
     rw [if_pos hf];exact Nat.le_max_right _ _
  ·refine (((Zz (q.l.set (ZA q.l i) (QP o0 g s))).map Qz.id).nodup_iff).2 ?_
   have:(QP o0 g s).id=(q.l.getD (ZA q.l i) XY).id:=by rw [<- hO];rfl
   rw [QiH hk this]
   exact h.nd
 ·exact h
theorem QnH {q:QD} (h:Jc q):Jc (YV q):=by
 refine ⟨h.g,h.cl,fun o ho=>(h.one o (List.mem_of_mem_drop ho)).more rfl (Nat.le_refl _),?_,?_⟩
 ·show ((q.l.drop 1).map Qz.id).Nodup
  rw [List.map_drop]
  exact h.nd.sublist (List.drop_sublist _ _)
 ·exact h.so.sublist (List.drop_sublist _ _)
open Go.Maps
section
variable {κ V:Type} [DecidableEq κ]
def Qe (kv:List (κ × V)) (k:κ):Option V:=(kv.find? fun p=>decide (p.1=k)).map (·.2)
def Qs (kv:List (κ × V)) (k:κ) (v:V):List (κ × V):=(k,v) :: kv.filter fun p=>!decide (p.1=k)
def Zc (kv:List (κ × V)) (k:κ):List (κ × V):=kv.filter fun p=>!decide (p.1=k)
theorem Jf (k:κ):Qe ([]:List (κ × V)) k=none:=rfl
theorem ZF (kv:List (κ × V)) (k k':κ):Qe (Zc kv k) k'=if k'=k then none else Qe kv k':=by
 unfold Zc Qe
 rw [List.find?_filter]
 by_cases e:k'=k
 ·subst e
  rw [if_pos rfl]
  rw [Option.map_eq_none_iff,List.find?_eq_none]
  intro p _ h
  simp at h
 ·rw [if_neg e]
  congr 1
  congr 1
  funext p
  by_cases h:p.1=k'
  ·have:¬ p.1=k:=fun e2=>e (h.symm.trans e2)
   simp [h,e]
  ·simp [h]
theorem Qw (kv:List (κ × V)) (k k':κ) (v:V):Qe (Qs kv k v) k'=if k'=k then some v else Qe kv k':=by
 have h:=ZF kv k k'
 unfold Zc at h
 unfold Qs
 by_cases e:k'=k
 ·subst e
  rw [if_pos rfl]
  simp [Qe]
 ·rw [if_neg e] at h ⊢
  rw [<- h]
  have e2:¬ k=k':=fun e2=>e e2.symm
  simp [Qe,e2]
end
section
variable {κ V U:Type} [DecidableEq κ]
end
def Qgv (v:Value):Option (DataW Value × List MemPlace):=some (.held v,[])
theorem Qab {v u:Value} {ps:List MemPlace} (h:Qgv v=some (.held u,ps)):v=u:=by
 simp only [Qgv,Option.some.injEq,Prod.mk.injEq,DataW.held.injEq] at h
 exact h.1
theorem QgI {D:DataW Value} {kl:Lit} (h:Maps.has D kl=false) (z:DataW Value):D.atKey kl z=z:=by
 cases D <;> try rfl
 rename_i es
 simp only [Maps.has] at h
 have:es.find? (fun p=>p.1.sameKey kl)=none:=by
  rw [List.find?_eq_none]
  intro p hp hs
  rw [List.any_eq_false] at h
  exact h p hp hs
 simp [DataW.atKey,this]
structure QeU {κ:Type} (P:Program) (kt:TypeId) (ok:κ->Prop) (enc:κ->Value) (lit:κ->Lit):Prop where
 K:Keyed P kt
 of:∀ k,ok k->keyOf P kt (enc k)=some (lit k)
 inj:∀ a b,ok a->ok b->lit a=lit b->a=b
 key:∀ k,ok k->WideAt.IsKeyLit (lit k)
def Za {κ:Type} [DecidableEq κ] (P:Program) (kt:TypeId) (ok:κ->Prop) (lit:κ->Lit) (w:World) (b N:Nat) (kv:List (κ × Value)):Prop :=
 ∃ D,w.ownsMap P kt Qgv b N D/\(∀ k,ok k->Maps.has D (lit k)=(Qe kv k).isSome)/\∀ k v z,ok k->Qe kv k=some v->D.atKey (lit k) z = .held v
section
variable {κ:Type} [DecidableEq κ] {P:Program} {kt t e:TypeId} {ok:κ->Prop} {enc:κ->Value} {lit:κ->Lit} {w:World} {b N:Nat} {kv:List (κ × Value)}
theorem Za.made (w:World):Za P kt ok lit (w.alloc (.map #[] 0)) w.heap.size 0 ([]:List (κ × Value)) :=
 ⟨.map [],World.ownsMap_made w P kt Qgv,fun _ _=>rfl,fun _ _ _ _ h=>by cases h⟩
theorem Za.out {w':World} {O:Nat->Prop} (h:Za P kt ok lit w b N kv) (ho:Qg O w w') (hb:¬ O b):Za P kt ok lit w' b N kv:=by
 obtain ⟨D,h1,h2,h3⟩:=h
 exact ⟨D,ho.map h1 hb,h2,h3⟩
theorem Za.later {w':World} (h:Za P kt ok lit w b N kv) (hb:Below w.heap.size w w'):Za P kt ok lit w' b N kv:=h.out (O:=fun _=>False) (Qg.of_below hb) (fun e=>e)
theorem Za.mono {N':Nat} (h:Za P kt ok lit w b N kv) (hn:N<=N'):Za P kt ok lit w b N' kv:=by
 obtain ⟨D,h1,h2,h3⟩:=h
 exact ⟨D,h1.mono hn,h2,h3⟩
theorem Za.lt (h:Za P kt ok lit w b N kv):b<w.heap.size:=by
 obtain ⟨D,h1,_⟩:=h
 exact h1.lt
theorem Za.look (E:QeU P kt ok enc lit) (h:Za P kt ok lit w b N kv) (ht:P.underlying t=some (.map kt e)) {z:Value} (hz:(zeroValue e).run P w = .ok z w) (k:κ) (hk:ok k) :
  (Instr.lookup t (.map (some b)) (enc k) false).run P w = .ok ((Qe kv k).getD z) w:=by
 obtain ⟨D,h1,h2,h3⟩:=h
 obtain ⟨v,ps,hrun,hv⟩:=h1.lookup E.K ht hz (zd:=.held z) (zp:=[]) rfl (E.of k hk)
 rw [hrun]
 congr 1
 cases hg:Qe kv k with
 | none =>
  rw [QgI (by rw [h2 k hk,hg];rfl)] at hv
  exact Qab hv
 | some u =>
  rw [h3 k u _ hk hg] at hv
  exact Qab hv
theorem Za.look_ok (E:QeU P kt ok enc lit) (h:Za P kt ok lit w b N kv) (ht:P.underlying t=some (.map kt e)) {z:Value} (hz:(zeroValue e).run P w = .ok z w) (k:κ) (hk:ok k) :
  (Instr.lookup t (.map (some b)) (enc k) true).run P w = .ok (.tuple #[(Qe kv k).getD z,.bool (Qe kv k).isSome]) w:=by
 obtain ⟨D,h1,h2,h3⟩:=h
 obtain ⟨v,ps,hrun,hv⟩:=h1.look_ok E.K ht hz (zd:=.held z) (zp:=[]) rfl (E.of k hk)
 rw [hrun,h2 k hk]
 congr 3
 cases hg:Qe kv k with
 | none =>
  rw [QgI (by rw [h2 k hk,hg];rfl)] at hv
  rw [Qab hv];rfl
 | some u =>
  rw [h3 k u _ hk hg] at hv
  rw [Qab hv];rfl
theorem Za.put (E:QeU P kt ok enc lit) (h:Za P kt ok lit w b N kv) (ht:P.underlying t=some (.map kt e)) (hn:N<maxLen) (k:κ) (hk:ok k) (v:Value) :
  ∃ w',(Instr.mapUpdate t (.map (some b)) (enc k) v).run P w = .ok () w'/\Za P kt ok lit w' b (N+1) (Qs kv k v)/\w.mapTurned w' b:=by
 obtain ⟨D,h1,h2,h3⟩:=h
 obtain ⟨w',hrun,h4,h5⟩:=h1.store E.K ht hn (E.of k hk) (val:=v) (d:=.held v) (ps:=[]) rfl
 refine ⟨w',hrun,⟨_,h4,fun k' hk'=>?_,fun k' u z hk' hu=>?_⟩,h5⟩
 ·rw [Qw]
  by_cases e1:k'=k
  ·subst e1
   rw [if_pos rfl,has_put_same h1.isMap (E.key _ hk)];rfl
  ·rw [if_neg e1,has_put_other (fun e2=>e1 (E.inj _ _ hk' hk e2)),h2 k' hk']
 ·rw [Qw] at hu
  by_cases e1:k'=k
  ·subst e1
   rw [if_pos rfl] at hu
   cases hu
   exact atKey_put_same h1.isMap (E.key _ hk) _ _
  ·rw [if_neg e1] at hu
   rw [atKey_put_other (fun e2=>e1 (E.inj _ _ hk' hk e2))]
   exact h3 k' u z hk' hu
theorem Za.del (E:QeU P kt ok enc lit) (h:Za P kt ok lit w b N kv) (ht:P.underlying t=some (.map kt e)) (k:κ) (hk:ok k) (ty:TypeId) :
  ∃ w',(Builtin.delete_ #[t,kt] ty #[.map (some b),enc k]).run P w = .ok (.tuple #[]) w'/\Za P kt ok lit w' b N (Zc kv k)/\w.mapTurned w' b:=by
 obtain ⟨D,h1,h2,h3⟩:=h
 obtain ⟨w',hrun,h4,h5⟩:=h1.drop E.K ht (E.of k hk) ty
 refine ⟨w',hrun,⟨_,h4,fun k' hk'=>?_,fun k' u z hk' hu=>?_⟩,h5⟩
 ·rw [ZF]
  by_cases e1:k'=k
  ·subst e1
   rw [if_pos rfl,has_del_same];rfl
  ·rw [if_neg e1,has_del_other (fun e2=>e1 (E.inj _ _ hk' hk e2)),h2 k' hk']
 ·rw [ZF] at hu
  by_cases e1:k'=k
  ·subst e1
   rw [if_pos rfl] at hu
   cases hu
  ·rw [if_neg e1] at hu
   rw [atKey_del_other (fun e2=>e1 (E.inj _ _ hk' hk e2))]
   exact h3 k' u z hk' hu
variable {ops:Array Oper} {rest:List Oper} {o:Oper} {a:Act} {Q:Exit->Act->World->Prop}
end
theorem ZJ {w:World} {g j:Nat} {cur:Array Value} {t:TypeId} (v:Value) (h:w.heap[g]? = some (.cells cur t (0,0))):(w.setCell ⟨g,j,none⟩ v).heap[g]? = some (.cells (cur.setIfInBounds j v) t (0,0)):=by
 simp [World.setCell,Array.getElem?_modify,h]
theorem QQ (w:World) (b j:Nat) (u:Value):Qg (fun k=>k=b) w (w.setCell ⟨b,j,none⟩ u) :=
 ⟨rfl,rfl,rfl,by simp [World.setCell],fun k _ hn=>Below.heap_setCell _ _ _ _ hn⟩
theorem Qg.of_turned {w w':World} {b:Nat} (h:w.mapTurned w' b):Qg (fun k=>k=b) w w':=Qg.of_grown h.grown (fun k e=>by cases e;rfl)
open Go.WideMaps
def Ui (x:Int):Prop:=-9223372036854775808<=x/\x<=9223372036854775807
def Y6 (i:Qp):Prop:=Ui i.ses/\Ui i.seq
def Qac (i:Qp):Value:=.agg #[.int .i64 i.ses,.int .i64 i.seq]
def JE (i:Qp):Lit:=.string (keyBytes [.int .i64 i.ses,.int .i64 i.seq])
theorem QkE:laidOutB Tryz.prog=true:=by kernel_rfl
theorem QkF:∃ m,Tryz.prog.types.size=m+3:=⟨Tryz.prog.types.size-3,(Nat.sub_add_cancel (of_decide_eq_true (by kernel_rfl))).symm⟩
theorem Qmy:KeyLaw Tryz.prog 34:=deep_law_laid QkE (m:=3) (by omega) (of_decide_eq_true (by kernel_rfl)) (by kernel_rfl) (by kernel_rfl)
theorem Uj {i:Qp} (h:Y6 i):keyOf Tryz.prog 34 (Qac i)=some (JE i):=by
 have wa:(Lit.int .i64 i.ses).wf=true:=WalkArith.wf_i64 h.1
 have wb:(Lit.int .i64 i.seq).wf=true:=WalkArith.wf_i64 h.2
 obtain ⟨m,hm⟩:=QkF
 have hkt:Tryz.prog.keyType 34=true:=by kernel_rfl
 have hf:(Qac i).formed Tryz.prog 34=true:=by
  have:Tryz.prog.cellsOf 34=2:=by kernel_rfl
  simp [Value.formed,Qac,Tryz.underlying34,this]
 have hc1:Tryz.prog.cellsOf 3=1:=by kernel_rfl
 have hc2:Tryz.prog.cellsOf 34=2:=by kernel_rfl
 unfold keyOf
 simp only [Tryz.underlying34]
 rw [if_pos (by rw [hkt,hf];rfl),hm]
 simp [Program.keyLits,Tryz.underlying34,Tryz.underlying3,Qac,Value.cells,hc1,hc2,wa,wb,JE]
theorem Qa6:Keyed Tryz.prog 34:=Keyed.of_law Qmy
theorem QkG {a b:Qp} (h:Qac a=Qac b):a=b:=by
 obtain ⟨a1,a2⟩:=a
 obtain ⟨b1,b2⟩:=b
 simp [Qac] at h
 obtain ⟨rfl,rfl⟩:=h
 rfl
theorem VX:QeU Tryz.prog 34 Y6 Qac JE where
 K:=Qa6
 of k hk:=Uj hk
 inj a b ha hb h:=QkG (Qa6.inj (Uj ha) (by rw [h];exact Uj hb))
 key k hk:=Qa6.key (Uj hk)
abbrev ZO:=Qp × Int
def Y7 (i:ZO):Prop:=Y6 i.1/\Ui i.2
def KT (i:ZO):Value:=.agg #[.int .i64 i.1.ses,.int .i64 i.1.seq,.int .i64 i.2]
def YY (i:ZO):Lit:=.string (keyBytes [.int .i64 i.1.ses,.int .i64 i.1.seq,.int .i64 i.2])
theorem Qja:KeyLaw Tryz.prog 179:=deep_law_laid QkE (m:=4) (by omega) (of_decide_eq_true (by kernel_rfl)) (by kernel_rfl) (by kernel_rfl)
theorem K7 {i:ZO} (h:Y7 i):keyOf Tryz.prog 179 (KT i)=some (YY i):=by
 have wa:(Lit.int .i64 i.1.ses).wf=true:=WalkArith.wf_i64 h.1.1
 have wb:(Lit.int .i64 i.1.seq).wf=true:=WalkArith.wf_i64 h.1.2
 have wc:(Lit.int .i64 i.2).wf=true:=WalkArith.wf_i64 h.2
 obtain ⟨m,hm⟩:=QkF
 have hkt:Tryz.prog.keyType 179=true:=by kernel_rfl
 have hc1:Tryz.prog.cellsOf 3=1:=by kernel_rfl
 have hc2:Tryz.prog.cellsOf 34=2:=by kernel_rfl
 have hc3:Tryz.prog.cellsOf 179=3:=by kernel_rfl
 have hf:(KT i).formed Tryz.prog 179=true:=by
  simp [Value.formed,KT,Tryz.underlying179,hc3]
 unfold keyOf
 simp only [Tryz.underlying179]
 rw [if_pos (by rw [hkt,hf];rfl),hm]
 simp [Program.keyLits,Tryz.underlying179,Tryz.underlying34,Tryz.underlying3,KT,Value.cells,hc1,hc2,hc3,wa,wb,wc,YY]
 rw [if_pos (by
  intro k hk
  rcases k with _ | _ | k
  ·simp
  ·simp
  ·omega)]
 rfl
theorem UH:Keyed Tryz.prog 179:=Keyed.of_law Qja
theorem Qh1 {a b:ZO} (h:KT a=KT b):a=b:=by
 obtain ⟨⟨a1,a2⟩,a3⟩:=a
 obtain ⟨⟨b1,b2⟩,b3⟩:=b
 simp [KT] at h
 obtain ⟨rfl,rfl,rfl⟩:=h
 rfl
theorem Jz:QeU Tryz.prog 179 Y7 KT YY where
 K:=UH
 of k hk:=K7 hk
 inj a b ha hb h:=Qh1 (UH.inj (K7 ha) (by rw [h];exact K7 hb))
 key k hk:=UH.key (K7 hk)
section
variable {P:Program} {w:World}
theorem Qgj (w:World) (dT sT ty elem:TypeId) (size g o dLen dCap:Nat) (a:Addr) (sLen sCap:Nat) (cur:Array Value) (t:TypeId) (cs:List Value)
  (hu:P.underlying dT=some (.slice elem)) (hs:(P.info? elem).map (·.size)=some size)
  (hg:w.heap[g]? = some (.cells cur t (0,0))) (hn:cs.length=Nat.min sLen dLen * size)
  (hsrc:∀ j v,cs[j]? = some v->w.cell? (a.add j)=some v) (hfit:o+cs.length<=cur.size) (h1:∀ v ∈ cs,v.oneCell'=true) :
  (Builtin.copy_ #[dT,sT] ty #[.slice (some ⟨g,o,none⟩) dLen dCap,.slice (some a) sLen sCap]).run P w =
   .ok (goInt (Nat.min sLen dLen)) (w.setRow g (cur.toList.take o ++ cs ++ cur.toList.drop (o+cs.length)).toArray):=by
 have hl:=run_loadCells_list (P:=P) w a cs hsrc
 have hst:=run_storeCells_at P g o t cs 0 cur w hg (by simpa using hfit) h1
 cases hq:P.info? elem with
 | none=>simp [hq] at hs
 | some i =>
  have hi:i.size=size:=by simpa [hq] using hs
  simp [Builtin.copy_,run_underlying hu,Builtin.lenOf,Builtin.firstCells,sizeOf,typeInfo,hq,hi, <- hn,hl,hst]
theorem QgJ (w:World) (g:Nat) (cs:Array Value):w.grownBy (w.setRow g cs) (some g) :=
 ⟨rfl,rfl,rfl,by simp [World.setRow],fun k _ hk=>setRow_other w g k cs (fun e=>hk (by rw [e]))⟩
theorem UI (w:World) (dT sT ty elem:TypeId) (size g o dLen dCap:Nat) (a:Addr) (sLen sCap:Nat) (cur:List Value) (t:TypeId) (cs:List Value)
  (hu:P.underlying dT=some (.slice elem)) (hs:(P.info? elem).map (·.size)=some size)
  (hg:w.heap[g]? = some (.cells cur.toArray t (0,0))) (hn:cs.length=Nat.min sLen dLen * size)
  (hsrc:∀ j v,cs[j]? = some v->w.cell? (a.add j)=some v) (hfit:o+cs.length<=cur.length) (h1:∀ v ∈ cs,v.oneCell'=true) :
  ∃ n w',(Builtin.copy_ #[dT,sT] ty #[.slice (some ⟨g,o,none⟩) dLen dCap,.slice (some a) sLen sCap]).run P w = .ok (goInt n) w'/\w'.heap[g]? = some (.cells (splice cur o cs).toArray t (0,0))/\w.grownBy w' (some g):=by
 refine ⟨_,_,Qgj w dT sT ty elem size g o dLen dCap a sLen sCap cur.toArray t cs hu hs hg hn hsrc (by simpa using hfit) h1,?_,QgJ _ _ _⟩
 rw [setRow_heap w g cur.toArray _ t _ hg]
 simp [splice]
theorem Vt {ops:Array Oper} {rest:List Oper} {o:Oper} {a:Act} {Q:Exit->Act->World->Prop} (hgd:o.guard=none) (d s:Operand) (dT sT:TypeId)
  (ho:o.op = .call { callee:=.builtin .copy,args:=#[d,s],argTypes:=#[dT,sT] }) (elem:TypeId) (size:Nat) (hu:P.underlying dT=some (.slice elem)) (hsz:(P.info? elem).map (·.size)=some size)
  (g off dLen dCap:Nat) (ad:Addr) (sLen sCap:Nat) (hd:a.eval d = .slice (some ⟨g,off,none⟩) dLen dCap) (hs:a.eval s = .slice (some ad) sLen sCap)
  (cur:List Value) (t:TypeId) (hg:w.heap[g]? = some (.cells cur.toArray t (0,0))) (cs:List Value) (hn:cs.length=Nat.min sLen dLen * size)
  (hsrc:∀ j v,cs[j]? = some v->w.cell? (ad.add j)=some v) (hfit:off+cs.length<=cur.length) (h1:∀ v ∈ cs,v.oneCell'=true)
  (h:∀ (n:Int) (w':World),Hid (w'.heap[g]? = some (.cells (splice cur off cs).toArray t (0,0)))->w.grownBy w' (some g)->wpList P ops Q rest (a.put o.dst (goInt n)) w'):wpList P ops Q (o :: rest) a w:=by
 obtain ⟨n,w',hr,h2,h3⟩:=UI (P:=P) w dT sT o.type elem size g off dLen dCap ad sLen sCap cur t cs hu hsz hg hn hsrc hfit h1
 refine wpList_plain hgd fun K hK=>?_
 unfold Oper.wp
 simp [execOp,ho,resolve,invoke,builtin,hd,hs,hr,Result.andThen]
 exact hK _ _ (h n w' h2 h3)
theorem Ug {ops:Array Oper} {o:Oper} {a:Act} {K:Act->World->Prop} {Q:Exit->Act->World->Prop} {E:Prop} (hgd:o.guard=none) (d s:Operand) (dT sT:TypeId)
  (ho:o.op = .call { callee:=.builtin .copy,args:=#[d,s],argTypes:=#[dT,sT] }) (elem:TypeId) (size:Nat) (hu:P.underlying dT=some (.slice elem)) (hsz:(P.info? elem).map (·.size)=some size)
  (g off dLen dCap:Nat) (ad:Addr) (sLen sCap:Nat) (hd:a.eval d = .slice (some ⟨g,off,none⟩) dLen dCap) (hs:a.eval s = .slice (some ad) sLen sCap)
  (cur:List Value) (t:TypeId) (hg:w.heap[g]? = some (.cells cur.toArray t (0,0))) (cs:List Value) (hn:cs.length=Nat.min sLen dLen * size)
  (hsrc:∀ j v,cs[j]? = some v->w.cell? (ad.add j)=some v) (hfit:off+cs.length<=cur.length) (h1:∀ v ∈ cs,v.oneCell'=true)
  (h:∀ (n:Int) (w':World),Hid (w'.heap[g]? = some (.cells (splice cur off cs).toArray t (0,0)))->w.grownBy w' (some g)->K (a.put o.dst (goInt n)) w') :
  if Region.wanted o (yielded ops a.tmps)=true then Oper.wp P o a w K Q else E:=by
 obtain ⟨n,w',hr,h2,h3⟩:=UI (P:=P) w dT sT o.type elem size g off dLen dCap ad sLen sCap cur t cs hu hsz hg hn hsrc hfit h1
 have hw:Region.wanted o (yielded ops a.tmps)=true:=by simp [Region.wanted,hgd]
 rw [if_pos hw]
 unfold Oper.wp
 simp [execOp,ho,resolve,invoke,builtin,hd,hs,hr,Result.andThen]
 exact h n w' h2 h3
theorem QbF {ops:Array Oper} {rest:List Oper} {o:Oper} {a:Act} {Q:Exit->Act->World->Prop} (hgd:o.guard=none) (s x:Operand) (t tn:TypeId)
  (ho:o.op = .call { callee:=.builtin .append,args:=#[s,x],argTypes:=#[t,tn] }) (e:TypeId) (i:TypeInfo) (z:Value) (size bytes:Nat) (ht:P.underlying t=some (.slice e)) (htn:P.underlying tn=some (.int .i64)) (hi:P.info? e=some i) (hz:i.zero=some z)
  (hsize:i.size=size) (hby:i.bytes=bytes) (hzs:z.cells.size=size) (hsz:0<size) (base:Option Addr) (cap k:Nat) (z':Int) (hs:a.eval s = .slice base 0 cap) (hx:a.eval x = .int .i64 z') (hzk:z'=(k:Int)) (h0:0<k) (hcap:cap<k)
  (h63:k<=1000000) (hbytes:k * bytes<=140737488355328)
  (h:∀ (G:Nat) (cur:List Value) (w':World),k<=G->G<=9223372036854775807->cur.length=G * size->w'.heap[w.heap.size]? = some (.cells cur.toArray e (0,0))->w.grownBy w' none->w'.heap.size=w.heap.size+1->wpList P ops Q rest (a.put o.dst (.slice (some ⟨w.heap.size,0,none⟩) k G)) w'):wpList P ops Q (o :: rest) a w:=by
 subst hzk
 have hold:(Builtin.firstCells i.size 0 (.slice base 0 cap)).run P w.drew = .ok ([]:List Value).toArray w.drew:=by
  cases base with
  | none=>exact run_firstCells_none _ _ _ _ _
  | some a=>exact run_firstCells_some w.drew _ 0 a 0 cap [] (by simp) (fun j v hj=>by simp at hj)
 have hr:=Lib.run_append_grow_zeros (P:=P) w t tn o.type e i z .i64 .i64 ht htn hi hz base 0 cap [] hold k h0 (by omega) (by omega) (by omega) (by rw [hby];omega) (by rw [hby,Nat.zero_add];exact growslice_fits hcap hbytes)
 rw [Nat.zero_add] at hr
 refine Lib.wpList_append_run w hgd s x t tn ho _ _ hs hx _ _ hr ?_
 obtain ⟨G,hG⟩:∃ G,grownCap w k cap e=G:=⟨_,rfl⟩
 have hg1:k<=G:=hG ▸ grownCap_ge w k cap e
 have hg2:G<=maxLen:=hG ▸ grownCap_le_maxLen w k cap e (QA h63)
 rw [hG]
 have hl:(Builtin.zeroCells z.cells k ++ Builtin.zeroCells z.cells (G-k)).toList.length=G * size:=by
  have e0:G=k+(G-k):=by omega
  have:∀ n,(Builtin.zeroCells z.cells n).size=n * size:=fun n=>by simp [Builtin.zeroCells,hzs]
  rw [Array.length_toList,Array.size_append,this,this, <- Nat.add_mul]
  congr 1
  omega
 refine h G _ _ hg1 (by unfold maxLen at hg2;omega) hl ?_ ?_ ?_
 ·rw [show w.heap.size=w.drew.heap.size from rfl,heap_alloc_new]
  simp
 ·exact ⟨rfl,rfl,rfl,by simp,(World.grownBy_alloc w.drew _ none).block⟩
 ·simp
end
theorem Qa7 {l:List ByteArray}:∀ {n k:Nat},QB l n=true->k<n->Yx l k=true
 | 0,_,_,h=>by omega
 | n+1,k,h,hk=>by
  simp only [QB,Bool.and_eq_true] at h
  by_cases e:k=n
  ·subst e;exact h.2
  ·exact Qa7 h.1 (by omega)
theorem Qda {l:List ByteArray} {n:Nat} (h:QB l n=true):∀ (d i:Nat),i+d+1<n->Qy (l.getD i Qt) (l.getD (i+d+1) Qt)=true
 | 0,i,hi=>by
  have:=Qa7 h (k:=i+1) hi
  simp only [Yx,Bool.and_eq_true,Bool.or_eq_true,beq_iff_eq] at this
  rcases this.2 with e | e
  ·omega
  ·simpa using e
 | d+1,i,hi=>by
  have h1:=Qda h d i (by omega)
  have h2:=Qda h 0 (i+d+1) (by omega)
  exact Y1 h1 h2
theorem Uk {l:List ByteArray} {n i j:Nat} (h:QB l n=true) (hij:i<j) (hj:j<n):Qy (l.getD i Qt) (l.getD j Qt)=true:=by
 have:=Qda h (j-i-1) i (by omega)
 rw [show i+(j-i-1)+1=j from by omega] at this
 exact this
theorem QkH {l:List ByteArray} {n i:Nat} (h:QB l n=true) (hi:i<n):Yb (l.getD i Qt)=true:=by
 have:=Qa7 h hi
 simp only [Yx,Bool.and_eq_true] at this
 exact this.1
end Go.Proofs.YtcldpmkhpmlcbaaGreatDoor
