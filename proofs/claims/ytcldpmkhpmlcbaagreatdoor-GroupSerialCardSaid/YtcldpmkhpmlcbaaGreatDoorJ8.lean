/- part -/
import Derived.Test.YtcldpmkhpmlcbaaGreatDoorJ7
import Derived.Test.YtcldpmkhpmlcbaaGreatDoorJ1
import Derived.Test.YtcldpmkhpmlcbaaGreatDoorShelfB
import Derived.Sort.OwnSortedInts
import Derived.WalkSpells
import Derived.Maps.RangeWalk
import Derived.Lib.QuietBelow
set_option linter.unusedVariables false
set_option linter.unusedSimpArgs false
namespace Go.Proofs.YtcldpmkhpmlcbaaGreatDoor
open Go.RowKit Go.Shelf
def X5 (l:List ByteArray) (m:Nat):Nat->Bool
 | 0=>true
 | k+1=>X5 l m k && decide ((l.getD k Qt).size<=m)
def Qdj (c:Ql):Bool:=X5 c.bnds 1000 (min c.bnds.length 20) && decide (c.reps.length<=20) && decide (c.bnds.length<=20)
theorem Qgn {l:List ByteArray} {m k n:Nat} (hk:k<n) (h:¬ (l.getD k Qt).size<=m):X5 l m n=false:=by
 induction n with
 | zero=>omega
 | succ n ih =>
  by_cases e:k=n
  ·subst e;simp only [X5,decide_eq_false h,Bool.and_false]
  ·simp [X5,ih (by omega)]
theorem Qg1 {l:List ByteArray} {m k:Nat} {x:ByteArray} (h:X5 l m k=true) (hx:l.getD k Qt=x) (hs:x.size<=m):X5 l m (k+1)=true:=by
 simp only [X5,h,hx,decide_eq_true hs,Bool.and_self]
set_option maxHeartbeats 1000000 in
theorem QnM (c:Ql) (A B:Option Addr) (ca cb:Nat) (w:World) (h:Z9 w c A B) :
  Calls Tryz.prog 36 #[.agg #[.slice A c.reps.length ca,.slice B c.bnds.length cb]] w fun e w'=>e = .returned (.bool (Qdj c))/\Below w.heap.size w w':=by
 obtain ⟨W,eW,HB,c0,c1⟩:=Y5 w (.slice A c.reps.length ca) (.slice B c.bnds.length cb) 25
 have h:=h.later HB
 have hn:=h.hn
 have hm:=h.hm
 go_enter Tryz.func36,Tryz.ntmps36
 go_wp2_with fail
 clear eW
 go_loop [3] (fun i=>∃ k:Nat,k<=c.bnds.length/\k<=20/\i = .int .i64 k/\Hid (X5 c.bnds 1000 k=true)) (fun i=>c.bnds.length-(intOf i).toNat)
 case atStart=>exact ⟨0,Nat.zero_le _,by omega,rfl,rfl⟩
 case round =>
  obtain ⟨k,hk,hk2,rfl,HA⟩:=hrel
  by_cases hlt:k<c.bnds.length/\k<20
  ·obtain ⟨hl1,hl2⟩:=hlt
   obtain ⟨b,off,x,rfl,hc,HX⟩:=ZM.at' h.strs hl1
   by_cases hs:x.size<=1000
   ·have HR:Hid (X5 c.bnds 1000 (k+1)=true):=Qg1 HA.out HX.out hs
    go_wp2
    go_round
    case rel=>exact ⟨k+1,by omega,by omega,by go_num,HR⟩
    case measure=>simp [intOf];omega
   ·have HF:Hid (Qdj c=false):=by show _=_;rw [Qdj,Qgn (k:=k) (by omega) (by rw [HX.out];exact hs)];rfl
    go_wp2
    go_ret
    exact ⟨Qm HF.out,HB⟩
  ·have HK:Hid (X5 c.bnds 1000 (min c.bnds.length 20)=true):=by show _=_;rw [show min c.bnds.length 20=k from by omega];exact HA.out
   have HF:Hid (Qdj c=(decide (c.reps.length<=20) && decide (c.bnds.length<=20))):=by show _=_;rw [Qdj,HK.out,Bool.true_and]
   by_cases hl1:k<c.bnds.length
   ·have hl2:¬ k<20:=by omega
    by_cases q1:c.reps.length<=20
    ·have q2:¬ c.bnds.length<=20:=by omega
     clear hlt
     go_wp2
     go_ret
     exact ⟨Qm (by rw [HF.out];simp [q1,q2];try omega),HB⟩
    ·clear hlt
     go_wp2
     go_ret
     exact ⟨Qm (by rw [HF.out];simp [q1]),HB⟩
   ·by_cases q1:c.reps.length<=20
    ·have q2:c.bnds.length<=20:=by omega
     clear hlt
     go_wp2
     go_ret
     exact ⟨Qm (by rw [HF.out];simp [q1,q2];try omega),HB⟩
    ·clear hlt
     go_wp2
     go_ret
     exact ⟨Qm (by rw [HF.out];simp [q1]),HB⟩
set_option maxHeartbeats 400000 in
theorem QcR (x y:ByteArray) (w:World):Calls Tryz.prog 157 #[.string x,.string y] w fun e w'=>e = .returned (.bool (Qy x y))/\w=w':=by
 cases hl:Qy x y
 all_goals
  have hl':Op.bytesLess x.toList y.toList=_:=hl
  clear hl
  go_enter Tryz.func157,Tryz.ntmps157
  go_wp2
  go_ret
  exact ⟨rfl,rfl⟩
set_option maxHeartbeats 400000 in
theorem Qg2 (x:ByteArray) (w:World):Calls Tryz.prog 158 #[.string x] w fun e w'=>e = .returned (.bool false)/\w=w':=by
 go_enter Tryz.func158,Tryz.ntmps158
 go_wp2
 go_ret
 exact ⟨by simp,rfl⟩
theorem Qk3 {k:IntKind} {a b:Int} (h:a=b):Value.int k a=Value.int k b:=by rw [h]
def KZ (l:List ByteArray) (key:ByteArray) (p:Nat) (f:Bool):Prop :=
 p<=l.length/\(∀ m,m<p->Qy (l.getD m Qt) key=true)/\(∀ m,p<=m->m<l.length->Qy (l.getD m Qt) key=false)/\(f=true ↔ p<l.length/\l.getD p Qt=key)
def Qjx (l:List ByteArray) (key:ByteArray) (w:World) (e:Ending) (w':World):Prop :=
 ∃ p f,e = .returned (.tuple #[.int .i64 (p:Nat),.bool f])/\KZ l key p f/\w=w'
theorem Qpi (i j:Nat) (h:i<j):i<=(i+j) / 2/\(i+j) / 2<j:=by omega
set_option maxHeartbeats 1000000 in
theorem Qjy (l:List ByteArray) (key:ByteArray) (B:Option Addr) (cb:Nat) (w:World) (h:ZM w B l) (hlen:l.length<=1000000) (hr:QB l l.length=true) :
  Calls Tryz.prog 106 #[.slice B l.length cb,.string key] w (Qjx l key w):=by
 have HR:=Lib.hid hr
 clear hr
 go_enter Tryz.func106,Tryz.ntmps106
 go_wp2_with fail
 go_loop [7,8] (fun i j=>∃ a b:Nat,a<=b/\b<=l.length/\i = .int .i64 a/\j = .int .i64 b/\Hid (∀ m,m<a->Qy (l.getD m Qt) key=true)/\Hid (∀ m,b<=m->m<l.length->Qy (l.getD m Qt) key=false)) (fun i j=>(intOf j-intOf i).toNat)
 case atStart=>exact ⟨0,l.length,by omega,by omega,rfl,rfl,fun m hm=>by omega,fun m hm hm2=>by omega⟩
 case round =>
  obtain ⟨a,b,hab,hb,rfl,rfl,HA,HB⟩:=hrel
  by_cases hlt:a<b
  ·obtain ⟨q1,q2⟩:=Qpi a b hlt
   obtain ⟨bb,off,x,rfl,hc,HX⟩:=ZM.at' h (k:=(a+b) / 2) (by omega)
   cases hl:Qy x key
   ·have HB2:Hid (∀ m,(a+b) / 2<=m->m<l.length->Qy (l.getD m Qt) key=false):=fun m h1 h2=>by
     by_cases e:m=(a+b) / 2
     ·rw [e,HX.out];exact hl
     ·have hm:=Uk HR.out (i:=(a+b) / 2) (j:=m) (by omega) h2
      rw [HX.out] at hm
      cases hq:Qy (l.getD m Qt) key
      ·rfl
      ·rw [Y1 hm hq] at hl;cases hl
    go_wp2_with (go_at_call 157;refine (QcR _ _ _).mono ?_;rintro e w1 ⟨rfl,rfl⟩)
    go_round
    case rel=>exact ⟨a,(a+b) / 2,by omega,by omega,rfl,Qk3 (by omega),HA,HB2⟩
    case measure=>simp [intOf];omega
   ·have HA2:Hid (∀ m,m<(a+b) / 2+1->Qy (l.getD m Qt) key=true):=fun m h1=>by
     by_cases e:m=(a+b) / 2
     ·rw [e,HX.out];exact hl
     ·have hm:=Uk HR.out (i:=m) (j:=(a+b) / 2) (by omega) (by omega)
      rw [HX.out] at hm
      exact Y1 hm hl
    go_wp2_with (go_at_call 157;refine (QcR _ _ _).mono ?_;rintro e w1 ⟨rfl,rfl⟩)
    go_round
    case rel=>exact ⟨(a+b) / 2+1,b,by omega,by omega,Qk3 (by omega),rfl,HA2,HB⟩
    case measure=>simp [intOf];omega
  ·have hab2:a=b:=by omega
   subst hab2
   by_cases hal:a<l.length
   ·obtain ⟨bb,off,x,rfl,hc,HX⟩:=ZM.at' h (k:=a) hal
    by_cases hx:x=key
    ·have HF:Hid (KZ l key a true):=⟨hb,HA.out,HB.out,by simp only [true_iff];exact ⟨hal,by rw [HX.out];exact hx⟩⟩
     have hbq:(x.toList == key.toList)=true:=by rw [hx];simp
     clear hx
     go_wp2
     go_ret2
     exact ⟨_,_,rfl,HF.out,rfl⟩
    ·have HF:Hid (KZ l key a false):=⟨hb,HA.out,HB.out,by
      constructor
      ·intro h;cases h
      ·rintro ⟨_,h2⟩;rw [HX.out] at h2;exact absurd h2 hx⟩
     have hbq:(x.toList == key.toList)=false:=by rw [beq_eq_false_iff_ne];exact fun e=>hx (U8 e)
     clear hx
     go_wp2_with (go_at_call 158;refine (Qg2 _ _).mono ?_;rintro e w1 ⟨rfl,rfl⟩)
     go_ret2
     exact ⟨_,_,rfl,HF.out,rfl⟩
   ·have HF:Hid (KZ l key a false):=⟨hb,HA.out,HB.out,by
     constructor
     ·intro h;cases h
     ·rintro ⟨h1,_⟩;omega⟩
    go_wp2
    go_ret2
    exact ⟨_,_,rfl,HF.out,rfl⟩
theorem Qh7 {c:Ql} (h:Qn c=true) {key:ByteArray} {p:Nat} {f:Bool} (hs:KZ c.bnds key p f):QO c key=(p:Int)+if f then 1 else 0:=by
 have hr:QB c.bnds c.bnds.length=true:=by
  simp only [Qn,Bool.and_eq_true] at h;exact h.2
 obtain ⟨h0,h1,h2,h3⟩:=hs
 have:=QdW hr h0 h1 h2 c.bnds.length (Nat.le_refl _)
 rw [Qg0 h,this]
 cases f
 ·rw [if_neg (fun q=>by simpa using h3.2 q)];simp;omega
 ·rw [if_pos (h3.1 rfl)];simp;omega
set_option maxHeartbeats 1000000 in
theorem VC (c:Ql) (key:ByteArray) (A B:Option Addr) (ca cb:Nat) (w:World) (h:Z9 w c A B) :
  Calls Tryz.prog 52 #[.agg #[.slice A c.reps.length ca,.slice B c.bnds.length cb],.string key] w fun e w'=>e = .returned (.int .i64 (QO c key))/\Below w.heap.size w w':=by
 obtain ⟨W,eW,HB,c0,c1⟩:=Y5 w (.slice A c.reps.length ca) (.slice B c.bnds.length cb) 25
 have h:=h.later HB
 cases hf:Qn c
 ·have HE:=Lib.hid (QgZ hf key)
  go_enter Tryz.func52,Tryz.ntmps52
  go_wp2_with (go_at_call 37;refine (Yk c A B ca cb _ h).mono ?_;rintro e w1 ⟨rfl,hb⟩;replace c0:=keep hb c0;replace c1:=keep hb c1;replace h:=h.later hb;replace HB:=Qa HB hb;clear hb)
  go_ret
  exact ⟨Qcy HE.out,HB⟩
 ·have hr:QB c.bnds c.bnds.length=true:=by
   simp only [Qn,Bool.and_eq_true] at hf;exact hf.2
  have HR:=Lib.hid hr
  have HFS:Hid (∀ p f,KZ c.bnds key p f->QO c key=(p:Int)+if f then 1 else 0):=fun p f hs=>Qh7 hf hs
  have hlen:c.bnds.length<=3:=by have:=Qbf hf;omega
  clear hr
  go_enter Tryz.func52,Tryz.ntmps52
  go_wp2_with (first
   | (go_at_call 37;refine (Yk c A B ca cb _ h).mono ?_;rintro e w1 ⟨rfl,hb⟩;replace c0:=keep hb c0;replace c1:=keep hb c1;replace h:=h.later hb;replace HB:=Qa HB hb;clear hb)
   | (go_at_call 106;refine (Qjy c.bnds key B cb _ h.strs (by omega) HR.out).mono ?_;rintro e w2 ⟨p,f,rfl,hs,rfl⟩;have HS:=Lib.hid hs;have hp:=hs.1;clear hs;cases f))
  all_goals
   go_ret
   exact ⟨Qcy (by rw [HFS.out _ _ HS.out];simp),HB⟩
set_option maxHeartbeats 1000000 in
theorem QcS (c:Ql) (key:ByteArray) (A B:Option Addr) (ca cb:Nat) (w:World) (h:Z9 w c A B) :
  Calls Tryz.prog 101 #[.agg #[.slice A c.reps.length ca,.slice B c.bnds.length cb],.string key] w fun e w'=>e = .returned (.int .i64 (QO c key))/\Below w.heap.size w w':=by
 obtain ⟨W,eW,HB,c0,c1⟩:=Y5 w (.slice A c.reps.length ca) (.slice B c.bnds.length cb) 25
 have h:=h.later HB
 cases hf:Qn c
 ·have HE:=Lib.hid (QgZ hf key)
  go_enter Tryz.func101,Tryz.ntmps101
  go_wp2_with (go_at_call 44;refine (Xg c A B ca cb _ h).mono ?_;rintro e w1 ⟨rfl,hb⟩;replace c0:=keep hb c0;replace c1:=keep hb c1;replace h:=h.later hb;replace HB:=Qa HB hb;clear hb)
  go_ret
  exact ⟨Qcy HE.out,HB⟩
 ·have HE:=Lib.hid (Qg0 hf key)
  have hlen:c.bnds.length<=3:=by have:=Qbf hf;omega
  have HLE:Hid (∀ k,XU c.bnds key k<=k):=QeY c.bnds key
  go_enter Tryz.func101,Tryz.ntmps101
  go_wp2_with (go_at_call 44;refine (Xg c A B ca cb _ h).mono ?_;rintro e w1 ⟨rfl,hb⟩;replace c0:=keep hb c0;replace c1:=keep hb c1;replace h:=h.later hb;replace HB:=Qa HB hb;clear hb)
  clear eW
  go_loop [5,6] (fun g i=>∃ k:Nat,k<=c.bnds.length/\i = .int .i64 k/\g = .int .i64 (XU c.bnds key k:Nat)) (fun _ i=>c.bnds.length-(intOf i).toNat)
  case atStart=>exact ⟨0,Nat.zero_le _,rfl,rfl⟩
  case round =>
   obtain ⟨k,hk,rfl,rfl⟩:=hrel
   have hle:=HLE.out k
   by_cases hlt:k<c.bnds.length
   ·obtain ⟨bb,off,x,rfl,hc,HX⟩:=ZM.at' h.strs hlt
    cases hl:Qy key x
    ·have HE2:Hid (XU c.bnds key (k+1)=XU c.bnds key k+1):=by show _=_;rw [XU,HX.out,hl];rfl
     have hl':=UE hl
     clear hl
     generalize XU c.bnds key k=g at *
     go_wp2
     go_round
     case rel=>exact ⟨k+1,by omega,by go_num,by rw [HE2.out];go_num⟩
     case measure=>simp [intOf];omega
    ·have HE2:Hid (XU c.bnds key (k+1)=XU c.bnds key k):=by show _=_;rw [XU,HX.out,hl];rfl
     have hl':=VW hl
     clear hl
     generalize XU c.bnds key k=g at *
     go_wp2
     go_round
     case rel=>exact ⟨k+1,by omega,by go_num,by rw [HE2.out]⟩
     case measure=>simp [intOf];omega
   ·have HK:Hid (QO c key=(XU c.bnds key k:Nat)):=by show _=_;rw [HE.out,show k=c.bnds.length from by omega]
    generalize XU c.bnds key k=g at *
    go_wp2
    go_ret
    exact ⟨Qcy HK.out,HB⟩
def Xv (c:Ql) (keys:List ByteArray) (g:Nat):Bool:=keys.any fun s=>QO c s == (g:Int)
def Xh (c:Ql) (keys:List ByteArray) (k:Nat):List Int:=((List.range k).filter (Xv c keys)).map Int.ofNat
def Y0 (c:Ql) (keys:List ByteArray):List Int:=if Qn c then Xh c keys c.reps.length else []
theorem Uc (c:Ql) (keys:List ByteArray) (k:Nat):Xh c keys (k+1)=Xh c keys k ++ if Xv c keys k then [(k:Int)] else []:=by
 unfold Xh
 rw [List.range_succ,List.filter_append,List.map_append]
 congr 1
 by_cases h:Xv c keys k <;> simp [h]
theorem X6 (c:Ql) (keys:List ByteArray):∀ k,(Xh c keys k).Pairwise (· < ·)/\∀ x,x ∈ Xh c keys k ↔ ∃ g:Nat,g<k/\Xv c keys g=true/\(g:Int)=x
 | 0=>by simp [Xh]
 | k+1=>by
  obtain ⟨h1,h2⟩:=X6 c keys k
  rw [Uc]
  cases ht:Xv c keys k
  ·simp only [Bool.false_eq_true,if_false,List.append_nil]
   refine ⟨h1,fun x=>?_⟩
   rw [h2]
   constructor
   ·rintro ⟨g,a,b,e⟩;exact ⟨g,by omega,b,e⟩
   ·rintro ⟨g,a,b,e⟩
    by_cases eg:g=k
    ·subst eg;rw [ht] at b;cases b
    ·exact ⟨g,by omega,b,e⟩
  ·simp only [if_true]
   refine ⟨?_,fun x=>?_⟩
   ·rw [List.pairwise_append]
    refine ⟨h1,by simp,fun a ha b hb=>?_⟩
    simp only [List.mem_singleton] at hb
    obtain ⟨g,hg,_,rfl⟩:=(h2 a).1 ha
    subst hb;omega
   ·rw [List.mem_append,h2]
    simp only [List.mem_singleton]
    constructor
    ·rintro (⟨g,a,b,e⟩ | e)
     ·exact ⟨g,by omega,b,e⟩
     ·exact ⟨k,by omega,ht,e.symm⟩
    ·rintro ⟨g,a,b,e⟩
     by_cases eg:g=k
     ·subst eg;exact .inr e.symm
     ·exact .inl ⟨g,by omega,b,e⟩
theorem Qah (c:Ql) (keys:List ByteArray):∀ k,(Xh c keys k).length<=k
 | 0=>by simp [Xh]
 | k+1=>by
  have:=Qah c keys k
  rw [Uc,List.length_append]
  split <;> simp <;> omega
theorem QdX {c:Ql} (h:Qn c=true) (keys:List ByteArray):Lib.compact ((keys.map (QO c)).mergeSort fun x y=>decide (x<=y))=Y0 c keys:=by
 obtain ⟨h1,h2⟩:=X6 c keys c.reps.length
 have e:Y0 c keys=Xh c keys c.reps.length:=by simp [Y0,h]
 rw [e]
 refine QgG _ _ h1 (fun x=>?_)
 rw [h2,List.mem_map]
 constructor
 ·rintro ⟨s,hs,rfl⟩
  obtain ⟨q1,q2⟩:=Uo h s
  refine ⟨(QO c s).toNat,by omega,?_,by omega⟩
  unfold Xv
  rw [List.any_eq_true]
  exact ⟨s,hs,by rw [beq_iff_eq];omega⟩
 ·rintro ⟨g,hg,ht,rfl⟩
  unfold Xv at ht
  rw [List.any_eq_true] at ht
  obtain ⟨s,hs,e⟩:=ht
  exact ⟨s,hs,by simpa using e⟩
def QaR (c:Ql) (keys:List ByteArray) (g:Nat):Nat->Bool
 | 0=>false
 | k+1=>QaR c keys g k || QO c (keys.getD k Qt) == (g:Int)
theorem UN (c:Ql) (keys:List ByteArray) (g:Nat):∀ k,k<=keys.length->QaR c keys g k=(keys.take k).any fun s=>QO c s == (g:Int)
 | 0,_=>by simp [QaR]
 | k+1,hk=>by
  have h:k<keys.length:=by omega
  rw [List.take_succ_eq_append_getElem h,List.any_append, <- UN c keys g k (by omega)]
  simp [QaR,List.getD_eq_getElem?_getD,h]
theorem Qh8 (c:Ql) (keys:List ByteArray) (g:Nat):QaR c keys g keys.length=Xv c keys g:=by
 rw [UN _ _ _ _ (Nat.le_refl _),List.take_length];rfl
theorem Qgo {α:Type} (l:List ByteArray) (f:ByteArray->α) (k:Nat) (h:k<l.length):(l.take (k+1)).map f=(l.take k).map f ++ [f (l.getD k Qt)]:=by
 rw [List.take_succ_eq_append_getElem h,List.map_append]
 simp [List.getD_eq_getElem?_getD,h]
open Go.Sort
def sorted (l:List Int):List Int:=l.mergeSort fun x y=>decide (x<=y)
theorem Xi (l:List Int):(sorted l).length=l.length:=by simp [sorted]
theorem Qg3 (base:Nat) (v:Value) (l:List Int) (w:World) (h:w.ownsRow base 3 1 v l.length (l.map (Value.int .i64))) (hl:l.length<=1000000) :
  Calls Tryz.prog 183 #[v] w fun e w'=>e = .returned (.tuple #[])/\w'.ownsRow base 3 1 v (sorted l).length ((sorted l).map (Value.int .i64))/\w.grownBy w' v.ownBlock:=by
 rcases h.2 with ⟨rfl,h0⟩ | ⟨g,cap,cur,rfl,hbase,hb,h1,h2,h3,h4⟩
 ·have hl0:l=[]:=List.eq_nil_of_length_eq_zero h0
  subst hl0
  refine (Tryz.slices_Sort_int_none none 0 w).mono ?_
  rintro e w' ⟨rfl,rfl⟩
  have e0:sorted []=[]:=by simp [sorted]
  rw [e0]
  exact ⟨rfl,Q7 _ _ _ _,World.grownBy.refl _ _⟩
 ·have hH:=holds_of_blockI hb (by simpa using h4)
  refine (Tryz.slices_Sort_int g 0 cap l w hH (Array.getElem?_eq_some_iff.1 hb).1 (by omega)).mono ?_
  rintro e w' ⟨rfl,n,os,rfl⟩
  refine ⟨rfl,?_,grownBy_sortedI _⟩
  have:=ownsRow_sortedI (n:=n) (os:=os) (ss:=l) (ts:=sorted l) (by simp [sorted]) hbase hb h1 h2 h3
  rw [Xi]
  exact this
theorem QcT (base:Nat) (v:Value) (l:List Int) (w:World) (h:w.ownsRow base 3 1 v l.length (l.map (Value.int .i64))) (hl:l.length<=1000000) :
  Calls Tryz.prog 149 #[v] w fun e w'=>(∃ v',e = .returned v'/\w'.ownsRow base 3 1 v' (Lib.compact l).length ((Lib.compact l).map (Value.int .i64)))/\w.grownBy w' v.ownBlock:=by
 rcases h.2 with ⟨rfl,h0⟩ | ⟨g,cap,cur,rfl,hbase,hb,h1,h2,h3,h4⟩
 ·have hl0:l=[]:=List.eq_nil_of_length_eq_zero h0
  subst hl0
  refine (Tryz.slices_Compact_int_empty none 0 w).mono ?_
  rintro e w' ⟨rfl,rfl⟩
  exact ⟨⟨_,rfl,Q7 _ _ _ _⟩,World.grownBy.refl _ _⟩
 ·have hH:=holds_of_blockI hb (by simpa using h4)
  have hle:(Lib.compact l).length<=l.length:=by
   have:=List.length_filter_le (Lib.keeps l.toArray) (List.range l.length)
   simpa [Lib.compact,Lib.compactUpTo] using this
  refine (Tryz.slices_Compact_int g 0 cap l w hH (by omega) h1).mono ?_
  rintro e w' ⟨rfl,q,rfl⟩
  have hg:=grownBy_sortedI (w:=w) (g:=g) (n:=q) (os:=#[]) (Lib.compact l ++ List.replicate (l.length-(Lib.compact l).length) 0).toArray
  have ho:=ownsRow_sortedI (n:=q) (os:=#[]) (ss:=l) (ts:=Lib.compact l ++ List.replicate (l.length-(Lib.compact l).length) 0) (by simp;omega) hbase hb h1 h2 h3
  rw [grow_empty] at hg ho
  refine ⟨⟨_,rfl,?_⟩,hg⟩
  obtain ⟨q1,q2⟩:=ho
  refine ⟨by simp,?_⟩
  rcases q2 with ⟨e,_⟩ | ⟨g',cap',cur',e,hbase',hb',hn',hc',hz',ht'⟩
  ·cases e
  ·cases e
   refine .inr ⟨g,cap,cur',rfl,hbase',hb',by omega,hc',hz',?_⟩
   have:cur'.toList.take (Lib.compact l).length=(cur'.toList.take (l.length * 1)).take (Lib.compact l).length:=by
    rw [List.take_take,show min (Lib.compact l).length (l.length * 1)=(Lib.compact l).length from by omega]
   rw [Nat.mul_one,this,ht']
   simp
theorem Qg4:(Tryz.prog.info? 3).map (fun i=>(i.zero,i.size,i.bytes))=some (some (.int .i64 0),1,8):=by kernel_rfl
def Qai (w:World) (l:List Int) (e:Ending) (w':World):Prop :=
 ∃ (A:Option Addr) (cap:Nat),e = .returned (.slice A l.length cap)/\QV w' A l/\Below w.heap.size w w'/\∀ a,A=some a->w.heap.size<=a.block
theorem Qk4 {w:World} {base:Nat} {e:TypeId} {v:Value} {l:List Int} (h:w.ownsRow base e 1 v l.length (l.map (Value.int .i64))) :
  ∃ (A:Option Addr) (cap:Nat),v = .slice A l.length cap/\l.length<=cap/\QV w A l/\∀ a,A=some a->base<=a.block:=by
 obtain ⟨A,cap,e1,h1,h2⟩:=KL h
 refine ⟨A,cap,e1,h1,h2,fun a ea=>?_⟩
 rcases h.2 with ⟨e2,_⟩ | ⟨g,cap,cur,e2,hfr,_⟩
 ·rw [e1,ea] at e2;cases e2
 ·rw [e1,ea] at e2;cases e2;exact hfr
set_option maxRecDepth 100000 in
set_option maxHeartbeats 2000000 in
theorem Qh9 (c:Ql) (keys:List ByteArray) (A B K:Option Addr) (ca cb ck:Nat) (w:World) (h:Z9 w c A B) (hK:ZM w K keys) (hlen:keys.length<=1000) :
  Calls Tryz.prog 140 #[.agg #[.slice A c.reps.length ca,.slice B c.bnds.length cb],.slice K keys.length ck] w (Qai w (Y0 c keys)):=by
 obtain ⟨W,eW,HB,c0,c1⟩:=Y5 w (.slice A c.reps.length ca) (.slice B c.bnds.length cb) 25
 have h:=h.later HB
 have hK:=QI.later hK HB
 cases hf:Qn c
 ·have HE:Hid (Y0 c keys=[]):=by show _=_;simp [Y0,hf]
  go_enter Tryz.func140,Tryz.ntmps140
  go_wp2_with (go_at_call 37;refine (Yk c A B ca cb _ h).mono ?_;rintro e w1 ⟨rfl,hb⟩;replace c0:=keep hb c0;replace c1:=keep hb c1;replace h:=h.later hb;replace HB:=Qa HB hb;clear hb)
  go_ret
  rw [HE.out]
  exact ⟨none,0,rfl,fun i hi=>by simp at hi,HB,fun a e=>by cases e⟩
 ·have HE:=Lib.hid (QdX hf keys)
  have HL:Hid (keys.map (QO c)=(keys.take keys.length).map (QO c)):=by show _=_;rw [List.take_length]
  obtain ⟨i0,hi,hz0,hz1,hz2⟩:=info_parts Qg4
  go_enter Tryz.func140,Tryz.ntmps140
  go_wp2_with (go_at_call 37;refine (Yk c A B ca cb _ h).mono ?_;rintro e w1 ⟨rfl,hb⟩;replace c0:=keep hb c0;replace c1:=keep hb c1;replace h:=h.later hb;replace hK:=QI.later hK hb;replace HB:=Qa HB hb;clear hb)
  clear eW hf
  go_loopw [5,13] (fun v i wr=>∃ k:Nat,k<=keys.length/\i = .int .i64 k/\Hid (wr.ownsRow w1.heap.size 3 1 v k (((keys.take k).map (QO c)).map (Value.int .i64)))/\Below w1.heap.size w1 wr) (fun _ i _=>keys.length-(intOf i).toNat)
  case atStart=>exact ⟨0,Nat.zero_le _,rfl,Q7 _ _ _ _,Below.refl _ _⟩
  case round =>
   obtain ⟨k,hk,rfl,HO,hw⟩:=hrel
   by_cases hlt:k<keys.length
   ·have h:=h.later hw
    have hKr:=QI.later hK hw
    replace c0:=keep hw c0
    replace c1:=keep hw c1
    obtain ⟨bb,off,x,rfl,hc,HX⟩:=ZM.at' hKr hlt
    obtain ⟨g,hg⟩:∃ g,QO c x=g:=⟨_,rfl⟩
    have HG:=Lib.hid hg
    have HT:Hid ((keys.take (k+1)).map (QO c)=(keys.take k).map (QO c) ++ [g]):=by show _=_;rw [Qgo _ _ _ hlt,HX.out,hg]
    clear hg
    go_wp2_with (first
     | (go_at_call 52;refine (JR HG.out (VC c x A B ca cb _ h)).mono ?_;rintro e w2 ⟨rfl,hb⟩;replace HO:=Lib.hid (Qi HO.out hb);replace hw:=Qa hw hb;clear hb)
     | (at_builtin;refine wpList_append_own _ rfl _ _ 22 rfl w1.heap.size 3 i0 (.int .i64 0) 1 8 Tryz.underlying22 hi hz0 hz1 hz2 rfl (by decide) _ _ _ rfl (Qi HO.out (Qc _ _)) ⟨w2.heap.size,0,none⟩ 1 1 [.int .i64 g] rfl rfl (cell_one_new _ _ _) QbH (QA (by omega)) (by omega) (Nat.le_trans hw.size (Qc _ _).size) ?_;intro v3 w3 HO3 hg3 _;replace hw:=QX (hw.alloc hw.size _) (Nat.le_refl _) (Qi HO.out (Qc _ _)) hg3;replace HO3:=Lib.hid HO3;clear hg3))
    go_roundw
    case rel=>exact ⟨k+1,by omega,by go_num,by show World.ownsRow _ _ _ _ _ _ _;rw [HT.out,List.map_append];exact HO3.out,hw⟩
    case measure=>simp [intOf];omega
   ·have ek:k=keys.length:=by omega
    have HO':Hid (wr.ownsRow w1.heap.size 3 1 u5 (keys.map (QO c)).length ((keys.map (QO c)).map (Value.int .i64))):=by
     show World.ownsRow _ _ _ _ _ _ _
     have:=HO.out
     rw [ek] at this
     rw [List.length_map]
     rw [<- HL.out] at this
     exact this
    have hll:(keys.map (QO c)).length<=1000000:=by rw [List.length_map];omega
    have hll2:(sorted (keys.map (QO c))).length<=1000000:=by rw [Xi];exact hll
    have HE2:Hid (Lib.compact (sorted (keys.map (QO c)))=Y0 c keys):=HE.out
    clear HO
    generalize keys.map (QO c)=l at *
    go_wp2_with (first
     | (go_at_call 183;refine (Qg3 w1.heap.size u5 l _ HO'.out hll).mono ?_;rintro e w2 ⟨rfl,HO2,hg2⟩;replace hw:=QX hw (Nat.le_refl _) HO'.out hg2;replace HO2:=Lib.hid HO2;clear hg2)
     | (go_at_call 149;refine (QcT w1.heap.size u5 (sorted l) _ HO2.out hll2).mono ?_;rintro e w3 ⟨⟨v3,rfl,HO3⟩,hg3⟩;replace hw:=QX hw (Nat.le_refl _) HO2.out hg3;replace HO3:=Lib.hid HO3;clear hg3))
    go_ret
    have:=HO3.out
    rw [HE2.out] at this
    obtain ⟨A',cap',rfl,_,hI,hfr⟩:=Qk4 this
    exact ⟨A',cap',rfl,hI,Qa HB hw,fun a e=>Nat.le_trans HB.size (hfr a e)⟩
def XF (l:List Rd):List Value:=l.flatMap fun x=>[.string x.key,.int .u64 x.ver]
def Xc (l:List Wr):List Value:=l.flatMap fun x=>[.string x.key,.int .i64 x.val.kind,.int .u64 x.val.bits,.string x.val.text]
theorem QbU (l:List Rd) (x:Rd):XF (l ++ [x])=XF l ++ [.string x.key,.int .u64 x.ver]:=by simp [XF]
theorem QbV (l:List Wr) (x:Wr):Xc (l ++ [x])=Xc l ++ [.string x.key,.int .i64 x.val.kind,.int .u64 x.val.bits,.string x.val.text]:=by simp [Xc]
theorem QdY:∀ (l:List Rd) (i:Nat),i<l.length->(XF l)[i * 2]? = some (.string (l.getD i XB).key)/\(XF l)[i * 2+1]? = some (.int .u64 (l.getD i XB).ver)
 | [],i,h=>by simp at h
 | x :: l,0,_=>by simp [XF]
 | x :: l,i+1,h=>by
  have:=QdY l i (by simpa using h)
  rw [show (i+1) * 2=i * 2+2 by omega,show i * 2+2+1=(i * 2+1)+2 by omega]
  simpa [XF] using this
theorem QdZ:∀ (l:List Wr) (i:Nat),i<l.length->(Xc l)[i * 4]? = some (.string (l.getD i Zf).key)/\(Xc l)[i * 4+1]? = some (.int .i64 (l.getD i Zf).val.kind)/\(Xc l)[i * 4+2]? = some (.int .u64 (l.getD i Zf).val.bits)/\(Xc l)[i * 4+3]? = some (.string (l.getD i Zf).val.text)
 | [],i,h=>by simp at h
 | x :: l,0,_=>by simp [Xc]
 | x :: l,i+1,h=>by
  have:=QdZ l i (by simpa using h)
  rw [show (i+1) * 4=i * 4+4 by omega,show i * 4+4+1=(i * 4+1)+4 by omega,show i * 4+4+2=(i * 4+2)+4 by omega,show i * 4+4+3=(i * 4+3)+4 by omega]
  simpa [Xc] using this
def QbW (B:Nat) (A:Option Addr):Prop:=∀ a,A=some a->B<=a.block
theorem Qcz {w:World} {base:Nat} {e:TypeId} {v:Value} {l:List Rd} (h:w.ownsRow base e 2 v l.length (XF l)) :
  ∃ (A:Option Addr) (cap:Nat),v = .slice A l.length cap/\l.length<=cap/\Xj w A l/\QbW base A:=by
 rcases h.2 with ⟨rfl,h0⟩ | ⟨g,cap,cur,rfl,hfr,hh,hn,_,_,ht⟩
 ·exact ⟨none,0,by rw [h0],by omega,fun i hi=>by omega,fun a e=>by cases e⟩
 ·refine ⟨some ⟨g,0,none⟩,cap,rfl,hn,fun i hi=>⟨g,0,rfl,?_⟩,fun a e=>by cases e;exact hfr⟩
  have hc:∀ j,j<l.length * 2->w.cell? ⟨g,0+j,none⟩=(XF l)[j]?:=by
   intro j hj
   have h1:(cur.toList.take (l.length * 2))[j]? = (XF l)[j]?:=by rw [ht]
   rw [List.getElem?_take_of_lt (by omega)] at h1
   simp only [World.cell?,hh,Nat.zero_add,Option.isSome_none,Bool.false_eq_true,if_false]
   rw [<- Array.getElem?_toList,h1]
  have:=QdY l i hi
  exact ⟨by rw [hc _ (by omega)];exact this.1,by rw [Nat.add_assoc,hc _ (by omega)];exact this.2⟩
theorem QcA {w:World} {base:Nat} {e:TypeId} {v:Value} {l:List Wr} (h:w.ownsRow base e 4 v l.length (Xc l)) :
  ∃ (A:Option Addr) (cap:Nat),v = .slice A l.length cap/\l.length<=cap/\Yf w A l/\QbW base A:=by
 rcases h.2 with ⟨rfl,h0⟩ | ⟨g,cap,cur,rfl,hfr,hh,hn,_,_,ht⟩
 ·exact ⟨none,0,by rw [h0],by omega,fun i hi=>by omega,fun a e=>by cases e⟩
 ·refine ⟨some ⟨g,0,none⟩,cap,rfl,hn,fun i hi=>⟨g,0,rfl,?_⟩,fun a e=>by cases e;exact hfr⟩
  have hc:∀ j,j<l.length * 4->w.cell? ⟨g,0+j,none⟩=(Xc l)[j]?:=by
   intro j hj
   have h1:(cur.toList.take (l.length * 4))[j]? = (Xc l)[j]?:=by rw [ht]
   rw [List.getElem?_take_of_lt (by omega)] at h1
   simp only [World.cell?,hh,Nat.zero_add,Option.isSome_none,Bool.false_eq_true,if_false]
   rw [<- Array.getElem?_toList,h1]
  have:=QdZ l i hi
  exact ⟨by rw [hc _ (by omega)];exact this.1,by rw [Nat.add_assoc,hc _ (by omega)];exact this.2.1,by rw [Nat.add_assoc,hc _ (by omega)];exact this.2.2.1,by rw [Nat.add_assoc,hc _ (by omega)];exact this.2.2.2⟩
open Go.Maps
section
variable {H:Type} {P:Program} {k e t:TypeId} {R:Value->Option (DataW H × List MemPlace)} {w w':World} {b n r:Nat} {D:DataW H} {left:Lit->Bool} {cnt:Nat} {v:Value}
theorem Qia (h:w.ownsMap P k R b n D) (ht:P.underlying t=some (.map k e)) (hrun:(Instr.range t (.map (some b))).run P w = .ok v w'):w.drawn<=w'.drawn:=by
 obtain ⟨es,clock,hb,_⟩:=h
 rw [run_range_map w t k e b es clock ht hb] at hrun
 cases hrun
 exact Nat.le_refl _
theorem Qjz (ty:TypeId) (h:w.ranges P k R b r n D left cnt) (hrun:(Instr.next (.pointer (some ⟨r,0,none⟩)) false ty).run P w = .ok v w'):w.drawn<=w'.drawn:=by
 obtain ⟨es,clock,since,seen,c0,hb,F,hs,rfl,hr,hold,rfl,hl1,hl2,hsc,hsk⟩:=h
 rcases run_next_at (P:=P) w ty r b since c0 seen es clock hr hb hold hsc with ⟨h0,hrun'⟩ | ⟨e,he,w1,hal,hrun'⟩
 ·rw [hrun'] at hrun
  cases hrun
  exact Nat.le_refl _
 ·rw [hrun'] at hrun
  cases hrun
  rcases hal with rfl | rfl
  ·exact Nat.le_refl _
  ·exact Nat.le_succ _
variable {ops:Array Oper} {rest:List Oper} {o:Oper} {a:Act} {Q:Exit->Act->World->Prop}
theorem QeZ (hg:o.guard=none) (m:Operand) (hop:o.op=Op.range t m) (K:Keyed P k) (ht:P.underlying t=some (.map k e))
  (hm:a.eval m = .map (some b)) (hown:w.ownsMap P k R b n D)
  (hK:∀ w',w'.ranges P k R b w.heap.size n D (Maps.has D) (Maps.size D)->w.grownBy w' none->w'.heap.size=w.heap.size+1->w.drawn<=w'.drawn->wpList P ops Q rest (a.put o.dst (.pointer (some ⟨w.heap.size,0,none⟩))) w') :
  wpList P ops Q (o :: rest) a w:=by
 refine wpList_plain hg fun K' hK'=>?_
 obtain ⟨w',hrun,r1,r2,r3⟩:=hown.range K ht
 have hd:=Qia hown ht hrun
 unfold Oper.wp
 simp [execOp,hop,hm,hrun,Result.andThen]
 exact hK' _ _ (hK w' r1 r2 r3 hd)
theorem Qgp (hg:o.guard=none) (it:Operand) (hop:o.op=Op.next it false) (qk qe:IntKind) (K:Keyed P k) (hk:P.underlying k=some (.int qk)) (he:P.underlying e=some (.int qe))
  (hit:a.eval it = .pointer (some ⟨r,0,none⟩)) (h:w.ranges P k (plainElem P e) b r n D left cnt)
  (hDone:cnt=0->(∀ kl,left kl=false)->wpList P ops Q rest (a.put o.dst (.tuple #[.bool false])) w)
  (hMore:∀ (x c:Int) (w':World) (cnt':Nat),(Lit.int qk x).wf=true->(Lit.int qe c).wf=true->left (.int qk x)=true->(∀ zd,D.atKey (.int qk x) zd = .lit (.int qe c))->w'.ranges P k (plainElem P e) b r n D (fun z=>left z && !z.sameKey (.int qk x)) cnt'->cnt'<cnt ->
   w.grownBy w' (some r)->w'.heap.size=w.heap.size->w.drawn<=w'.drawn->(Instr.entry (.pointer (some ⟨r,0,none⟩))).run P w' = .ok (.tuple #[.int qk x,.int qe c]) w'->wpList P ops Q rest (a.put o.dst (.tuple #[.bool true,.int qk x,.int qe c])) w') :
  wpList P ops Q (o :: rest) a w:=by
 refine wpList_plain hg fun K' hK'=>?_
 unfold Oper.wp
 rcases h.next K o.type with ⟨h0,hl,hrun⟩ | ⟨key,v,kl,y,w',cnt',hkey,hlk,hv,hat,hrun,hrg,hlt,hgr,hsz,hen⟩
 ·simp [execOp,hop,hit,hrun,Result.andThen]
  exact hK' _ _ (hDone h0 hl)
 ·obtain ⟨x,rfl,rfl,hwx⟩:=Maps.keyOf_int_inv hk hkey
  obtain ⟨c,rfl,rfl,hwc⟩:=plainElem_int_inv he hv
  have hd:=Qjz o.type h hrun
  simp [execOp,hop,hit,hrun,Result.andThen]
  exact hK' _ _ (hMore x c w' cnt' hwx hwc hlk hat hrg hlt hgr hsz hd hen)
end
structure YN (w w':World):Prop where
 b:Below w.heap.size w w'
 d:w.drawn<=w'.drawn
theorem YN.refl (w:World):YN w w:=⟨Below.refl _ _,Nat.le_refl _⟩
theorem YN.trans {w w1 w2:World} (h:YN w w1) (h':YN w1 w2):YN w w2:=⟨Qa h.1 h'.1,Nat.le_trans h.2 h'.2⟩
theorem YN.drew {w w':World} (h:YN w w'):YN w w'.drew:=⟨Qb h.1,Nat.le_succ_of_le h.2⟩
theorem YN.drewN {w w':World} (h:YN w w') (n:Nat):YN w (w'.drewN n):=⟨Qj h.1 n,Nat.le_trans h.2 (Nat.le_add_right _ _)⟩
end Go.Proofs.YtcldpmkhpmlcbaaGreatDoor
