/- part -/
import Derived.ProofKit
import Derived.WalkKit
import Derived.Lib.Hide
import Derived.Deep.QuietTactic
import Derived.BigQuiet
import Derived.Test.YtcldpmkhpmlcbaaGreatDoorShelfA
import Derived.WalkSpells
import Derived.WalkLawsBesides
import Derived.Lib.ValidU
import Derived.Laws.AppendOwn
import Derived.Lib.SlicesCompact
import Derived.Maps.AppendAt
set_option linter.unusedVariables false
set_option linter.unusedSimpArgs false
namespace Go.Proofs.YtcldpmkhpmlcbaaGreatDoor
open Go.ChangeShapes Go.WideShapes Go.ChangeAt Go.RowKit
theorem keep {W w1:World} {a:Addr} {v:Value} (hb:Below W.heap.size W w1) (h:W.cell? a=some v):w1.cell? a=some v:=by
 by_cases ha:a.block<W.heap.size
 ·rw [hb.cell ha];exact h
 ·exfalso
  have:W.heap[a.block]? = none:=Array.getElem?_eq_none (by omega)
  simp [World.cell?,this] at h
theorem Qa {w W w1:World} (HB:Below w.heap.size w W) (hb:Below W.heap.size W w1):Below w.heap.size w w1 :=
 HB.trans (hb.mono HB.size)
theorem U7 {W:World} {a:Addr} {v:Value} (o:Obj) (h:W.cell? a=some v):(W.alloc o).cell? a=some v :=
 keep ((Below.refl _ W).alloc (Nat.le_refl _) o) h
theorem Qc (w:World) (a:Obj):Below w.heap.size w (w.alloc a):=(Below.refl _ _).alloc (Nat.le_refl _) _
theorem ZL (w:World) (a b:Obj):Below w.heap.size w ((w.alloc a).alloc b):=(Qc w a).alloc (by simp) _
theorem QdD (w:World) (a b c:Obj):Below w.heap.size w (((w.alloc a).alloc b).alloc c):=(ZL w a b).alloc (by simp;omega) _
theorem YJ {P:Program} {f:FuncId} {args:Array Value} {w:World} {n:Nat} {v:Value}
  (h:Calls P f args (w.drewN n) fun e w'=>e = .returned v/\w.drewN n=w'):Calls P f args (w.drewN n) fun e w''=>e = .returned v/\∃ m,w''=w.drewN m :=
 h.mono fun _ _ ⟨he,hm⟩=>⟨he,n,hm.symm⟩
theorem Qj {B:Nat} {a w:World} (h:Below B a w) (n:Nat):Below B a (w.drewN n):=⟨h.os,h.tape,h.output,h.size,h.block⟩
theorem Qb {B:Nat} {a w:World} (h:Below B a w):Below B a w.drew:=⟨h.os,h.tape,h.output,h.size,h.block⟩
section
variable {H:Type} {enc:TypeId × Value->H} {P:Program}
theorem Qby (hl:laidOutB P=true) {W W':World} (hb:Below W.heap.size W W') :
  ∀ {ts:List TypeId} {vs:List Value} {ds:List (DataW H)} {ps:List MemPlace},(ts.all fun t=>P.readableRec t && decide (t<P.types.size))=true ->
   DataW.TrodAll enc P W 0 (fun _=>true) true ts vs ds ps->(∀ x ∈ ps,x.block<W.heap.size)->∀ sp:Nat->Bool,(∀ x ∈ ps,sp x.block=true)->DataW.TrodAll enc P W' 0 sp true ts vs ds ps
 | [],[],[],_,_,h,_,_,_=>h
 | [],_ :: _,_,_,_,h,_,_,_=>h.elim
 | [],[],_ :: _,_,_,h,_,_,_=>h.elim
 | _ :: _,[],_,_,_,h,_,_,_=>h.elim
 | _ :: _,_ :: _,[],_,_,h,_,_,_=>h.elim
 | t :: ts,v :: vs,d :: ds,ps,hr,h,hlt,sp,hsp=>by
  obtain ⟨p,q,h1,h2,rfl⟩:=h
  simp only [List.all_cons,Bool.and_eq_true,decide_eq_true_eq] at hr
  refine ⟨p,q,?_,Qby hl hb hr.2 h2 (fun x hx=>hlt x (List.mem_append_right _ hx)) sp (fun x hx=>hsp x (List.mem_append_right _ hx)),rfl⟩
  exact WideElems.Trod_stays hl hr.1.1 hr.1.2 h1 (fun x hx=>hb.same (hlt x (List.mem_append_left _ hx))) (fun x hx=>hsp x (List.mem_append_left _ hx))
theorem Qmt {f:Func} {s:ChangeSpec} {apart fresh handsOn:Bool} {W W':World} {args:Array Value} {ds gs:List (DataW H)} {before:List MemPlace} {tb:TypeId}
  (hl:laidOutB P=true) (hr:(f.params.toList.all fun t=>P.readableRec t && decide (t<P.types.size))=true)
  (hrt:f.resultTypes=#[tb]) (ub:P.underlying tb=some .bool) (hv:s.vars=[])
  (hres:(s.fn H (ds ++ [])).results=[.lit (.bool true)]) (hargs:(s.fn H (ds ++ [])).args=ds) (hvs:(s.fn H (ds ++ [])).vars=[])
  (hW:DataW.Whole enc P f.params.toList s.vars apart W args.toList ds gs before) (hb:Below W.heap.size W W') :
  ∃ v,Ending.returned (.bool true) = .returned v/\s.post enc P f apart fresh handsOn false W args v W':=by
 refine ⟨_,rfl,?_⟩
 have hlt:∀ p ∈ before,p.block<W.heap.size:=fun p hp=>hW.lt p hp
 obtain ⟨p,q,hA,hV,rfl,hz,hn⟩:=hW
 have hV':=hV
 rw [hv] at hV
 have hg:gs=[]:=by
  cases gs with
  | nil=>rfl
  | cons _ _=>exact hV.elim
 subst hg
 obtain rfl:q=[]:=hV
 have hlt':∀ x ∈ p,x.block<W.heap.size:=fun x hx=>hlt x (by simpa using hx)
 have hold:∀ x ∈ p,(fun b=>decide (b<W.heap.size)) x.block=true:=fun x hx=>by simpa using hlt' x hx
 refine ⟨ds,[],p ++ [],[],p,[],⟨p,[],hA,hV',rfl,hz,hn⟩,?_,?_,?_,World.keptBut_mono (fun x hx=>⟨hx,?_⟩) (hb.frame (· ∈ p ++ [])),fun h=>by cases h⟩
 ·rw [hres,hrt]
  exact trodAll_mk1 (shut_bool ub true)
 ·rw [hargs]
  exact Qby hl hb hr hA hlt' _ hold
 ·rw [hv,hvs]
  rfl
 ·exact Or.inr (by simpa using hx)
end
def JD (b:UInt8):Bool:=(decide (97<=b.toNat) && decide (b.toNat<=122)) || (decide (48<=b.toNat) && decide (b.toNat<=57))
def Yb (s:ByteArray):Bool:=decide (1<=s.size) && decide (s.size<=12) && s.data.toList.all JD
def Qy (a b:ByteArray):Bool:=Op.bytesLess a.toList b.toList
theorem JO:∀ (x y:List UInt8),Op.bytesLess x y=decide (x<y)
 | [],[]=>by simp [Op.bytesLess]
 | _ :: _,[]=>by simp [Op.bytesLess]
 | [],_ :: _=>by simp [Op.bytesLess]
 | a :: x,b :: y=>by
  rw [Op.bytesLess,JO x y]
  simp only [List.cons_lt_cons_iff]
  by_cases h1:a<b <;> by_cases h2:a=b <;> by_cases h3:x<y <;> simp [h1,h2,h3]
theorem U8 {a b:ByteArray} (h:a.toList=b.toList):a=b:=by
 rw [ByteArray.toList_eq,ByteArray.toList_eq] at h
 cases a;cases b
 simp at h
 simp [h]
theorem VU (a:ByteArray):Qy a a=false:=by
 simp only [Qy,JO,decide_eq_false_iff_not];exact List.lt_irrefl _
theorem Y1 {a b c:ByteArray} (h:Qy a b=true) (h':Qy b c=true):Qy a c=true:=by
 simp only [Qy,JO,decide_eq_true_eq] at *;exact List.lt_trans h h'
theorem QdE {a b:ByteArray} (h:Qy a b=true):Qy b a=false:=by
 cases h':Qy b a
 ·rfl
 ·have:=Y1 h h';rw [VU] at this;cases this
theorem VV {a b:ByteArray} (h:Qy a b=false) (h':Qy b a=false):a=b:=by
 simp only [Qy,JO,decide_eq_false_iff_not] at *;exact U8 (List.le_antisymm h' h)
theorem UE {x y:ByteArray} (h:Qy y x=false):(Op.bytesLess x.toList y.toList || x.toList == y.toList)=true:=by
 cases h':Qy x y
 ·obtain rfl:=VV h h'
  simp
 ·have:Op.bytesLess x.toList y.toList=true:=h'
  simp [this]
theorem VW {x y:ByteArray} (h:Qy y x=true):(Op.bytesLess x.toList y.toList || x.toList == y.toList)=false:=by
 have h':Op.bytesLess x.toList y.toList=false:=QdE h
 rw [h',Bool.false_or,beq_eq_false_iff_ne]
 intro e
 obtain rfl:=U8 e
 rw [VU] at h;cases h
structure Ql where
 reps:List Int
 bnds:List ByteArray
def Qa2 (n:Int):Bool:=n == 1 || n == 3 || n == 5
def Qt:ByteArray:=ByteArray.empty
def Yx (l:List ByteArray) (k:Nat):Bool:=Yb (l.getD k Qt) && (k == 0 || Qy (l.getD (k-1) Qt) (l.getD k Qt))
def QB (l:List ByteArray):Nat->Bool
 | 0=>true
 | k+1=>QB l k && Yx l k
def XH (l:List Int):Nat->Bool
 | 0=>true
 | k+1=>XH l k && Qa2 (l.getD k 0)
def XI (c:Ql):Bool:=decide (1<=c.reps.length) && decide (c.reps.length<=4) && decide (c.bnds.length+1=c.reps.length)
def Qn (c:Ql):Bool:=XI c && XH c.reps c.reps.length && QB c.bnds c.bnds.length
theorem Jq {l:List ByteArray} {k n:Nat} (hk:k<n) (h:Yx l k=false):QB l n=false:=by
 induction n with
 | zero=>omega
 | succ n ih =>
  by_cases e:k=n
  ·subst e;simp [QB,h]
  ·simp [QB,ih (by omega)]
theorem Jr {l:List ByteArray} {k:Nat} {x:ByteArray} (_h:QB l k=true) (hx:l.getD k Qt=x) (hkey:Yb x=true) (hk:k=0):QB l (k+1)=true:=by
 subst hk;simp only [QB,Yx,hx,hkey,beq_self_eq_true,Bool.true_or,Bool.and_self]
theorem JP {l:List ByteArray} {k:Nat} {x y:ByteArray} (h:QB l k=true) (hx:l.getD k Qt=x) (hy:l.getD (k-1) Qt=y) (hkey:Yb x=true) (hl:Qy y x=true):QB l (k+1)=true:=by
 simp only [QB,Yx,h,hx,hy,hkey,hl,Bool.or_true,Bool.and_self]
theorem QgC {l:List Int} {k n:Nat} (hk:k<n) (h:Qa2 (l.getD k 0)=false):XH l n=false:=by
 induction n with
 | zero=>omega
 | succ n ih =>
  by_cases e:k=n
  ·subst e;simp only [XH,h,Bool.and_false]
  ·simp [XH,ih (by omega)]
theorem UF {c:Ql} (h:XI c=false):Qn c=false:=by simp [Qn,h]
theorem QdF {c:Ql} {k:Nat} (hk:k<c.reps.length) (h:Qa2 (c.reps.getD k 0)=false):Qn c=false:=by
 simp [Qn,QgC hk h]
theorem Uh {c:Ql} {k:Nat} (hk:k<c.bnds.length) (h:Yx c.bnds k=false):Qn c=false:=by
 simp [Qn,Jq hk h]
theorem QdG {c:Ql} (h:XI c=true) (h1:XH c.reps c.reps.length=true) (h2:QB c.bnds c.bnds.length=true):Qn c=true:=by
 simp [Qn,h,h1,h2]
def QI (w:World) (A:Option Addr) (n:Nat) (f:Nat->Value):Prop :=
 ∀ i,i<n->∃ b off,A=some ⟨b,off,none⟩/\w.cell? ⟨b,off+i,none⟩=some (f i)
def QV (w:World) (A:Option Addr) (l:List Int):Prop:=QI w A l.length fun i=>.int .i64 (l.getD i 0)
def ZM (w:World) (A:Option Addr) (l:List ByteArray):Prop:=QI w A l.length fun i=>.string (l.getD i Qt)
theorem QI.later {w w':World} {A:Option Addr} {n:Nat} {f:Nat->Value} (h:QI w A n f) (hb:Below w.heap.size w w'):QI w' A n f:=by
 intro i hi
 obtain ⟨b,off,e,hc⟩:=h i hi
 exact ⟨b,off,e,keep hb hc⟩
theorem QV.at' {w:World} {A:Option Addr} {l:List Int} (h:QV w A l) {k:Nat} (hk:k<l.length) :
  ∃ b off x,A=some ⟨b,off,none⟩/\w.cell? ⟨b,off+k,none⟩=some (.int .i64 x)/\Hid (l.getD k 0=x):=by
 obtain ⟨b,off,e,hc⟩:=h k hk
 exact ⟨b,off,_,e,hc,rfl⟩
theorem ZM.at' {w:World} {A:Option Addr} {l:List ByteArray} (h:ZM w A l) {k:Nat} (hk:k<l.length) :
  ∃ b off x,A=some ⟨b,off,none⟩/\w.cell? ⟨b,off+k,none⟩=some (.string x)/\Hid (l.getD k Qt=x):=by
 obtain ⟨b,off,e,hc⟩:=h k hk
 exact ⟨b,off,_,e,hc,rfl⟩
structure Z9 (w:World) (c:Ql) (A B:Option Addr):Prop where
 ints:QV w A c.reps
 strs:ZM w B c.bnds
 hs:∀ k,k<c.bnds.length->(c.bnds.getD k Qt).size<=9223372036854775807
 hn:c.reps.length<=9223372036854775807
 hm:c.bnds.length<=9223372036854775807
theorem Z9.later {w w':World} {c:Ql} {A B:Option Addr} (h:Z9 w c A B) (hb:Below w.heap.size w w'):Z9 w' c A B :=
 ⟨QI.later h.ints hb,QI.later h.strs hb,h.hs,h.hn,h.hm⟩
theorem Y5 (w:World) (u v:Value) (t:TypeId):∃ W:World,w.alloc (.cells #[u,v] t)=W/\Below w.heap.size w W/\W.cell? ⟨w.heap.size,0,none⟩=some u/\W.cell? ⟨w.heap.size,1,none⟩=some v :=
 ⟨_,rfl,Qc _ _,by simp,by simp⟩
open Go.Shelf
def X1:ByteArray:=⟨#[97,98,99,100,101,102,103,104,105,106,107,108,109,110,111,112,113,114,115,116,117,118,119,120,121,122,48,49,50,51,52,53,54,55,56,57]⟩
theorem Qok (b:UInt8):X1.data.toList.contains b=JD b:=by
 have h:((List.range 256).all fun n=>X1.data.toList.contains (UInt8.ofNat n) == JD (UInt8.ofNat n))=true:=by decide +kernel
 have:=List.all_eq_true.1 h b.toNat (List.mem_range.2 b.toNat_lt)
 simpa using this
theorem KA {p:UInt8->Bool}:∀ l:List UInt8,l.dropWhile p=[] ↔ l.all p=true
 | []=>by simp
 | a :: l=>by
  cases h:p a
  ·simp [h]
  ·simp [h,KA l]
theorem Qkv (l:List UInt8):Lib.trimS l X1.data.toList=[] ↔ l.all JD=true:=by
 have e:(fun b=>X1.data.toList.contains b)=JD:=funext Qok
 have e':(X1.data.toList.contains ·)=JD:=e
 unfold Lib.trimS Lib.trimLeftS Lib.trimRightS
 rw [e',KA]
 constructor
 ·intro h
  have h2:(l.reverse.dropWhile JD)=[]:=by
   cases hd:l.reverse.dropWhile JD with
   | nil=>rfl
   | cons x xs =>
    exfalso
    have hx:JD x=false:=by
     have:=List.head?_dropWhile_not JD l.reverse
     rw [hd] at this
     simpa using this
    rw [hd] at h
    simp [hx] at h
  rw [KA] at h2
  simpa using h2
 ·intro h
  have h2:l.reverse.dropWhile JD=[]:=by rw [KA];simpa using h
  rw [h2];rfl
set_option maxHeartbeats 400000 in
theorem Xs (s:ByteArray) (w:World) (hs:s.size<=maxLen) :
  Calls Tryz.prog 79 #[.string s] w fun e w'=>e = .returned (.bool (Yb s))/\Below w.heap.size w w':=by
 unfold maxLen at hs
 by_cases h1:1<=s.size
 ·by_cases h2:s.size<=12
  ·have hcon:=Tryz.strings_Trim_laid s X1 w (by omega) (by decide) (ascii_of_all (by decide))
   have hnil:=Qkv s.data.toList
   have ek:Yb s=s.data.toList.all JD:=by simp [Yb,h1,h2]
   rw [ek];clear ek
   cases hb:s.data.toList.all JD
   ·have hr:(⟨(Lib.trimS s.data.toList X1.data.toList).toArray⟩:ByteArray).toList.isEmpty=false:=by
     rw [ByteArray.toList_eq]
     cases hx:Lib.trimS s.data.toList X1.data.toList with
     | nil=>rw [hnil.1 hx] at hb;cases hb
     | cons=>simp
    generalize (⟨(Lib.trimS s.data.toList X1.data.toList).toArray⟩:ByteArray)=r at hcon hr
    unfold X1 at hcon
    clear hnil hb
    go_enter Tryz.func79,Tryz.ntmps79
    go_wp2_with (go_at_call 133;refine hcon.mono ?_;rintro e w' ⟨rfl,hB⟩)
    go_ret
    exact ⟨rfl,hB⟩
   ·have hr:(⟨(Lib.trimS s.data.toList X1.data.toList).toArray⟩:ByteArray).toList.isEmpty=true:=by
     rw [ByteArray.toList_eq,hnil.2 hb];rfl
    generalize (⟨(Lib.trimS s.data.toList X1.data.toList).toArray⟩:ByteArray)=r at hcon hr
    unfold X1 at hcon
    clear hnil hb
    go_enter Tryz.func79,Tryz.ntmps79
    go_wp2_with (go_at_call 133;refine hcon.mono ?_;rintro e w' ⟨rfl,hB⟩)
    go_ret
    exact ⟨rfl,hB⟩
  ·have ek:Yb s=false:=by simp [Yb,h2]
   rw [ek];clear ek
   go_enter Tryz.func79,Tryz.ntmps79
   go_wp2
   go_ret
   exact ⟨rfl,Below.refl _ _⟩
 ·have ek:Yb s=false:=by simp [Yb,h1]
  rw [ek];clear ek
  go_enter Tryz.func79,Tryz.ntmps79
  go_wp2
  go_ret
  exact ⟨rfl,Below.refl _ _⟩
theorem Qm {a b:Bool} (h:a=b):Ending.returned (.bool b) = .returned (.bool a):=by rw [h]
theorem Qkw (s:ByteArray) (k:Nat) (h:k<s.size):s.data.toList.take (k+1)=s.data.toList.take k ++ [s[k]]:=by
 rw [List.take_succ_eq_append_getElem (by simpa using h)];rfl
theorem Qnr (c:UInt8):JD c=((decide (97<=(c.toNat:Int)) && decide ((c.toNat:Int)<=122)) || (decide (48<=(c.toNat:Int)) && decide ((c.toNat:Int)<=57))):=by
 unfold JD
 have e1:decide (97<=c.toNat)=decide (97<=(c.toNat:Int)):=decide_eq_decide.2 (by omega)
 have e2:decide (c.toNat<=122)=decide ((c.toNat:Int)<=122):=decide_eq_decide.2 (by omega)
 have e3:decide (48<=c.toNat)=decide (48<=(c.toNat:Int)):=decide_eq_decide.2 (by omega)
 have e4:decide (c.toNat<=57)=decide ((c.toNat:Int)<=57):=decide_eq_decide.2 (by omega)
 rw [e1,e2,e3,e4]
theorem Qol {c:UInt8} (h:(97<=(c.toNat:Int)/\(c.toNat:Int)<=122) \/ (48<=(c.toNat:Int)/\(c.toNat:Int)<=57)):JD c=true:=by
 rw [Qnr];simpa using h
theorem QoZ {c:UInt8} (h:¬ ((97<=(c.toNat:Int)/\(c.toNat:Int)<=122) \/ (48<=(c.toNat:Int)/\(c.toNat:Int)<=57))):JD c=false:=by
 rw [Qnr,Bool.eq_false_iff];simpa using h
theorem Qkx {s:ByteArray} {k:Nat} (h:k<s.size) (hl:JD s[k]=false):s.data.toList.all JD=false:=by
 have:s[k] ∈ s.data.toList:=by
  have:s.data.toList[k]'(by simpa using h) ∈ s.data.toList:=List.getElem_mem _
  exact this
 rw [List.all_eq_false]
 exact ⟨_,this,by simp [hl]⟩
set_option maxHeartbeats 400000 in
theorem YK (s : ByteArray) (w : World) (hs : s.size <= maxLen) :
    Calls Tryz.prog 56 #[.string s] w fun e w' => e = .returned (.bool (Yb s)) /\ w = w' := by
  unfold maxLen at hs
  go_enter Tryz.func56, Tryz.ntmps56
  go_wp2
  go_loop [3] (fun i => ∃ k : Nat, k <= s.size /\ i = .int .i64 k /\ (s.data.toList.take k).all JD = true) (fun i => s.size - (intOf i).toNat)
  case atStart => exact ⟨0, Nat.zero_le _, rfl, rfl⟩
  case round =>
    obtain ⟨k, hk, rfl, ha⟩ := hrel
    have HA : Hid ((s.data.toList.take k).all JD = true) := ha
    clear ha
    by_cases hlt : k < s.size
    · have HT := Lib.hid (Qkw s k hlt)
      have HF : Hid (JD s[k] = false -> s.data.toList.all JD = false) := Lib.hid (fun h => Qkx hlt h)
      go_wp2
      all_goals first
        | (go_ret
           exact ⟨Qm (by rw [Yb, HF.out (QoZ (by omega)), Bool.and_false]), rfl⟩)
        | (go_round
           case rel => exact ⟨k + 1, by omega, by go_num, by rw [HT.out, List.all_append, HA.out, List.all_cons, Qol (by omega)]; rfl⟩
           case measure => simp [intOf]; omega)
    · have hall : s.data.toList.all JD = true := by rw [<- List.take_of_length_le (l := s.data.toList) (i := k) (by simp; omega)]; exact HA.out
      have HK : Hid (Yb s = (decide (1 <= s.size) && decide (s.size <= 12))) := Lib.hid (by rw [Yb, hall, Bool.and_true])
      clear hall
      by_cases h1 : 1 <= s.size
      · by_cases h2 : s.size <= 12
        all_goals
          go_wp2
          go_ret
          exact ⟨Qm (by rw [HK.out]; simp [h1, h2]; try omega), rfl⟩
      · go_wp2
        go_ret
        exact ⟨Qm (by rw [HK.out]; simp [h1]), rfl⟩
def Ua (n:Nat):Bool:=decide (9218868437227405312<n % 9223372036854775808)
def XJ (n:Nat):Nat:=if Ua n then 9221120237041090560 else n
theorem Qi8 (d:Ieee.Datum):(d.order d != some .eq)=d.isNaN:=by
 cases d with
 | nan=>rfl
 | infinity s=>cases s <;> rfl
 | number s m i =>
  simp [Ieee.Datum.order,Ieee.Datum.isNaN]
theorem Qmu (n:Nat):(Ieee.double.read n).isNaN=Ua n:=by
 have h1:Ieee.double.signWeight=9223372036854775808:=rfl
 have h2:Ieee.double.binade=4503599627370496:=rfl
 have h3:Ieee.double.infRung=9218868437227405312:=rfl
 unfold Ieee.Format.read Ua
 rw [h1,h2,h3]
 dsimp only
 split
 ·simp [Ieee.Datum.isNaN];omega
 ·split
  ·simp [Ieee.Datum.isNaN];omega
  ·split
   ·simp [Ieee.Datum.isNaN];omega
   ·simp [Ieee.Datum.isNaN];omega
theorem Qi9 (n:Nat):(FloatKind.f64.format.order n n != some .eq)=Ua n:=by
 have:FloatKind.f64.format.order n n=(Ieee.double.read n).order (Ieee.double.read n):=rfl
 rw [this,Qi8,Qmu]
theorem QgD (n:Nat) (w:World):(callFunc 202 #[.int .u64 n]).run Tryz.prog w = .ok (.value (.float .f64 n)) w:=by
 rw [run_callFunc_extern Tryz.func202 (by kernel_rfl) (by kernel_rfl) (by kernel_rfl) (e:=Extern.MathFloatBits.float64frombits) (by kernel_rfl)]
 rfl
set_option maxRecDepth 100000 in
theorem Qfj (n:Nat) (w:World):Calls Tryz.prog 201 #[.float .f64 n] w fun e w'=>e = .returned (.bool (Ua n))/\w=w':=by
 have h:=Qi9 n
 go_enter Tryz.func201,Tryz.ntmps201
 go_wp2
 go_ret
 exact ⟨rfl,rfl⟩
theorem Qfk {n:Nat} (h:Ua n=true):XJ n=9221120237041090560:=by simp [XJ,h]
theorem Qfl {n:Nat} (h:Ua n=false):XJ n=n:=by simp [XJ,h]
theorem Qct {a b:Nat} (h:a=b):Ending.returned (.int .u64 b) = .returned (.int .u64 a):=by rw [h]
set_option maxRecDepth 100000 in
theorem Qky (n:Nat) (w:World):Calls Tryz.prog 181 #[.int .u64 n] w fun e w'=>e = .returned (.int .u64 (XJ n))/\w=w':=by
 have hd:=QgD n
 cases hn:Ua n
 ·have HC:=Lib.hid (Qfl hn)
  go_enter Tryz.func181,Tryz.ntmps181
  go_wp2_with (go_at_call 201;refine (Qfj n _).mono ?_;rintro e w1 ⟨rfl,rfl⟩)
  go_ret
  exact ⟨Qct HC.out,rfl⟩
 ·have HC:=Lib.hid (Qfk hn)
  go_enter Tryz.func181,Tryz.ntmps181
  go_wp2_with (go_at_call 201;refine (Qfj n _).mono ?_;rintro e w1 ⟨rfl,rfl⟩)
  go_ret
  exact ⟨Qct HC.out,rfl⟩
theorem Qom (x:Int) (h0:0<=x) (h1:x<18446744073709551616):bits .and .u64 x 2047=x % 2048:=bits_mask .u64 64 (by decide) wraps_u64 11 (by decide) x h0 h1
theorem Qon (x:Int) (h0:0<=x) (h1:x<18446744073709551616):bits .and .u64 x 4503599627370495=x % 4503599627370496:=bits_mask .u64 64 (by decide) wraps_u64 52 (by decide) x h0 h1
theorem Qkz {m m':Bool} {a a' b b':Int} (h:m=m') (ha:a=a') (hb:b=b'):Ending.returned (.tuple #[.bool m,.int .u64 a,.int .u64 b]) = .returned (.tuple #[.bool m',.int .u64 a',.int .u64 b']):=by rw [h,ha,hb]
set_option maxRecDepth 100000 in
theorem QkA (n:Nat) (hn:n<18446744073709551616) (m:Bool) (E F:Nat) (hm:decide (9223372036854775808<=n)=m) (hE:n / 4503599627370496 % 2048=E) (hF:n % 4503599627370496=F) (w:World) :
  Calls Tryz.prog 196 #[.int .u64 n] w fun e w'=>e = .returned (.tuple #[.bool m,.int .u64 E,.int .u64 F])/\w=w':=by
 have HP:Ending.returned (.tuple #[.bool (decide ((9223372036854775808:Int)<=n)),.int .u64 (bits .and .u64 (n / 4503599627370496) 2047),.int .u64 (bits .and .u64 n 4503599627370495)]) = .returned (.tuple #[.bool m,.int .u64 E,.int .u64 F]):=by
  subst hm hE hF
  refine Qkz ?_ ?_ ?_
  ·rw [decide_eq_decide];omega
  ·rw [Qom _ (by omega) (by omega)];omega
  ·rw [Qon _ (by omega) (by omega)];omega
 have HP:=Lib.hid HP
 clear hm hE hF
 go_enter Tryz.func196,Tryz.ntmps196
 go_wp2
 go_ret3
 exact ⟨HP.out,rfl⟩
def QdH (m:Bool) (E F:Nat):Nat:=if E=2047/\F ≠ 0 then 0 else if E=2047/\m=true then 1 else if E=2047 then 6 else if E=0/\F=0/\m=true then 3 else if E=0/\F=0 then 4 else if m=true then 2 else 5
set_option maxRecDepth 100000 in
theorem Qh0 (n:Nat) (hn:n<18446744073709551616) (m:Bool) (E F:Nat) (hm:decide (9223372036854775808<=n)=m) (hE:n / 4503599627370496 % 2048=E) (hF:n % 4503599627370496=F) (w:World) :
  Calls Tryz.prog 159 #[.int .u64 n] w fun e w'=>e = .returned (.int .i64 (QdH m E F))/\w=w':=by
 have HP:=Lib.hid (QkA n hn m E F hm hE hF)
 clear hm hE hF hn
 have hE:E=0 \/ E=2047 \/ (E ≠ 0/\E ≠ 2047):=by omega
 have hF:F=0 \/ F ≠ 0:=by omega
 rcases hE with rfl | rfl | ⟨e1,e2⟩ <;> rcases hF with rfl | f1 <;> cases m
 all_goals
  go_enter Tryz.func159,Tryz.ntmps159
  go_wp2_with (go_at_call 196;refine (HP.out _).mono ?_;rintro e w1 ⟨rfl,rfl⟩)
  go_ret
  exact ⟨by simp [QdH, *],rfl⟩
theorem QkB (n:Nat):QdH (decide (9223372036854775808<=n)) (n / 4503599627370496 % 2048) (n % 4503599627370496)=0 ↔ Ua n=true:=by
 unfold QdH Ua
 simp only [decide_eq_true_eq]
 split
 ·omega
 ·split
  ·omega
  ·split
   ·omega
   ·split
    ·omega
    ·split
     ·omega
     ·split <;> omega
set_option maxRecDepth 100000 in
theorem QgE (n:Nat) (hn:n<18446744073709551616) (w:World) :
  Calls Tryz.prog 108 #[.int .u64 n] w fun e w'=>e = .returned (.int .u64 (XJ n))/\w=w':=by
 have HP:=Lib.hid (Qh0 n hn _ _ _ rfl rfl rfl)
 have hz:=QkB n
 clear hn
 revert HP hz
 generalize QdH (decide (9223372036854775808<=n)) (n / 4503599627370496 % 2048) (n % 4503599627370496)=K
 intro HP hz
 by_cases hk:K=0
 ·subst hk
  have HC:=Lib.hid (Qfk (hz.1 rfl))
  clear hz
  go_enter Tryz.func108,Tryz.ntmps108
  go_wp2_with (go_at_call 159;refine (HP.out _).mono ?_;rintro e w1 ⟨rfl,rfl⟩)
  go_ret
  exact ⟨Qct HC.out,rfl⟩
 ·have hb:Ua n=false:=by cases h:Ua n;rfl;exact absurd (hz.2 h) hk
  have HC:=Lib.hid (Qfl hb)
  have hk':((K:Int) == 0)=false:=by simp;omega
  clear hz hb
  go_enter Tryz.func108,Tryz.ntmps108
  go_wp2_with (go_at_call 159;refine (HP.out _).mono ?_;rintro e w1 ⟨rfl,rfl⟩)
  go_ret
  exact ⟨Qct HC.out,rfl⟩
structure JQ where
 kind:Int
 bits:Nat
 text:ByteArray
structure Rd where
 key:ByteArray
 ver:Nat
structure Wr where
 key:ByteArray
 val:JQ
structure Tx where
 ses:Int
 seq:Int
 rds:List Rd
 wrs:List Wr
instance:Inhabited Rd:=⟨⟨Qt,0⟩⟩
instance:Inhabited Wr:=⟨⟨Qt,⟨0,0,Qt⟩⟩⟩
def JQ.cell (v:JQ):Value:=.agg #[.int .i64 v.kind,.int .u64 v.bits,.string v.text]
def XB:Rd:=⟨Qt,0⟩
def Zf:Wr:=⟨Qt,⟨0,0,Qt⟩⟩
structure JQ.Good (v:JQ):Prop where
 b:v.bits<18446744073709551616
 t:v.text.size<=9223372036854775807
 k0:-9223372036854775808<=v.kind
 k1:v.kind<=9223372036854775807
def Ze (v:JQ):Bool :=
 if v.kind=0 then decide (v.bits=0) && decide (v.text=Qt)
 else if v.kind=1 then decide (v.text=Qt) && decide (XJ v.bits=v.bits)
 else decide (v.kind=2) && decide (v.bits=0) && decide (v.text.size<=40) && Lib.validD v.text.data.toList
def Xj (w:World) (A:Option Addr) (l:List Rd):Prop :=
 ∀ i,i<l.length->∃ b off,A=some ⟨b,off,none⟩/\w.cell? ⟨b,off+i * 2,none⟩=some (.string (l.getD i XB).key)/\w.cell? ⟨b,off+i * 2+1,none⟩=some (.int .u64 (l.getD i XB).ver)
def Yf (w:World) (A:Option Addr) (l:List Wr):Prop :=
 ∀ i,i<l.length->∃ b off,A=some ⟨b,off,none⟩/\w.cell? ⟨b,off+i * 4,none⟩=some (.string (l.getD i Zf).key)/\w.cell? ⟨b,off+i * 4+1,none⟩=some (.int .i64 (l.getD i Zf).val.kind) /\
  w.cell? ⟨b,off+i * 4+2,none⟩=some (.int .u64 (l.getD i Zf).val.bits)/\w.cell? ⟨b,off+i * 4+3,none⟩=some (.string (l.getD i Zf).val.text)
theorem Xj.later {w w':World} {A:Option Addr} {l:List Rd} (h:Xj w A l) (hb:Below w.heap.size w w'):Xj w' A l:=by
 intro i hi
 obtain ⟨b,off,e,h0,h1⟩:=h i hi
 exact ⟨b,off,e,keep hb h0,keep hb h1⟩
theorem Yf.later {w w':World} {A:Option Addr} {l:List Wr} (h:Yf w A l) (hb:Below w.heap.size w w'):Yf w' A l:=by
 intro i hi
 obtain ⟨b,off,e,h0,h1,h2,h3⟩:=h i hi
 exact ⟨b,off,e,keep hb h0,keep hb h1,keep hb h2,keep hb h3⟩
theorem Xj.at' {w:World} {A:Option Addr} {l:List Rd} (h:Xj w A l) {k:Nat} (hk:k<l.length) :
  ∃ b off s n,A=some ⟨b,off,none⟩/\w.cell? ⟨b,off+k * 2,none⟩=some (.string s)/\w.cell? ⟨b,off+k * 2+1,none⟩=some (.int .u64 (n:Nat))/\Hid (l.getD k XB=⟨s,n⟩):=by
 obtain ⟨b,off,e,h0,h1⟩:=h k hk
 exact ⟨b,off,_,_,e,h0,h1,rfl⟩
theorem Yf.at' {w:World} {A:Option Addr} {l:List Wr} (h:Yf w A l) {k:Nat} (hk:k<l.length) :
  ∃ b off s z n t,A=some ⟨b,off,none⟩/\w.cell? ⟨b,off+k * 4,none⟩=some (.string s)/\w.cell? ⟨b,off+k * 4+1,none⟩=some (.int .i64 z) /\
   w.cell? ⟨b,off+k * 4+2,none⟩=some (.int .u64 (n:Nat))/\w.cell? ⟨b,off+k * 4+3,none⟩=some (.string t)/\Hid (l.getD k Zf=⟨s,⟨z,n,t⟩⟩):=by
 obtain ⟨b,off,e,h0,h1,h2,h3⟩:=h k hk
 exact ⟨b,off,_,_,_,_,e,h0,h1,h2,h3,rfl⟩
structure QY (w:World) (t:Tx) (A B:Option Addr):Prop where
 rds:Xj w A t.rds
 wrs:Yf w B t.wrs
 rk:∀ k,k<t.rds.length->(t.rds.getD k XB).key.size<=9223372036854775807
 wk:∀ k,k<t.wrs.length->(t.wrs.getD k Zf).key.size<=9223372036854775807
 wv:∀ k,k<t.wrs.length->(t.wrs.getD k Zf).val.Good
 rn:t.rds.length<=9223372036854775807
 wn:t.wrs.length<=9223372036854775807
theorem QY.later {w w':World} {t:Tx} {A B:Option Addr} (h:QY w t A B) (hb:Below w.heap.size w w'):QY w' t A B :=
 ⟨h.rds.later hb,h.wrs.later hb,h.rk,h.wk,h.wv,h.rn,h.wn⟩
def XA (t:Tx) (A B:Option Addr) (ca cb:Nat):Value:=.agg #[.int .i64 t.ses,.int .i64 t.seq,.slice A t.rds.length ca,.slice B t.wrs.length cb]
theorem Qoo (w:World) (u v x:Value) (t:TypeId):∃ W:World,w.alloc (.cells #[u,v,x] t)=W/\Below w.heap.size w W/\W.cell? ⟨w.heap.size,0,none⟩=some u/\W.cell? ⟨w.heap.size,1,none⟩=some v/\W.cell? ⟨w.heap.size,2,none⟩=some x :=
 ⟨_,rfl,Qc _ _,by simp,by simp,by simp⟩
theorem QeS (w:World) (u v x y:Value) (t:TypeId):∃ W:World,w.alloc (.cells #[u,v,x,y] t)=W/\Below w.heap.size w W/\W.cell? ⟨w.heap.size,0,none⟩=some u/\W.cell? ⟨w.heap.size,1,none⟩=some v/\W.cell? ⟨w.heap.size,2,none⟩=some x/\W.cell? ⟨w.heap.size,3,none⟩=some y :=
 ⟨_,rfl,Qc _ _,by simp,by simp,by simp,by simp⟩
theorem Qi {w w1:World} {base n size:Nat} {e:TypeId} {v:Value} {xs:List Value} (h:w.ownsRow base e size v n xs) (hb:Below w.heap.size w w1):w1.ownsRow base e size v n xs:=by
 refine ⟨h.1,?_⟩
 rcases h.2 with h2 | ⟨g,cap,cur,hv,hg,hh,r⟩
 ·exact .inl h2
 ·exact .inr ⟨g,cap,cur,hv,hg,by rw [hb.block g (Array.getElem?_eq_some_iff.1 hh).1];exact hh,r⟩
theorem Q7 (w:World) (base size:Nat) (e:TypeId):w.ownsRow base e size (.slice none 0 0) 0 []:=⟨by simp,.inl ⟨rfl,rfl⟩⟩
theorem QkC {w:World} {base n size:Nat} {e:TypeId} {v:Value} {xs:List Value} (h:w.ownsRow base e size v n xs):∀ k,v.ownBlock=some k->base<=k:=by
 rcases h.2 with ⟨rfl,_⟩ | ⟨g,cap,cur,rfl,hg,_⟩
 ·intro k hk;cases hk
 ·intro k hk;simp [Value.ownBlock] at hk;omega
theorem QX {a w w':World} {base n size:Nat} {e:TypeId} {v:Value} {xs:List Value} (h:Below base a w) (hB:base<=a.heap.size) (ho:w.ownsRow base e size v n xs) (hg:w.grownBy w' v.ownBlock):Below base a w' :=
 h.grown hg (Nat.le_trans hB h.size) (QkC ho)
theorem JR {P:Program} {f:FuncId} {args:Array Value} {w:World} {z x:Int} (e:z=x)
  (h:Calls P f args w fun e w'=>e = .returned (.int .i64 z)/\Below w.heap.size w w') :
  Calls P f args w fun e w'=>e = .returned (.int .i64 x)/\Below w.heap.size w w':=by
 rw [e] at h;exact h
theorem QbH {k:IntKind} {x:Int}:∀ u ∈ [Value.int k x],u.oneCell'=true:=fun u hu=>by
 cases List.mem_singleton.1 hu;rfl
theorem QbI {x:ByteArray}:∀ u ∈ [Value.string x],u.oneCell'=true:=fun u hu=>by
 cases List.mem_singleton.1 hu;rfl
theorem QA {n:Nat} (h:n<=1000000):n<=maxLen:=by unfold maxLen;omega
def QgF (w:World) (l:List Int) (e:Ending) (w':World):Prop :=
 ∃ (A:Option Addr) (cap:Nat),e = .returned (.slice A l.length cap)/\QV w' A l/\Below w.heap.size w w'
theorem Qfm {w:World} {base n:Nat} {e:TypeId} {v:Value} {f:Nat->Value} (h:w.ownsRow base e 1 v n ((List.range n).map f)) :
  ∃ (A:Option Addr) (cap:Nat),v = .slice A n cap/\n<=cap/\QI w A n f:=by
 rcases h.2 with ⟨rfl,rfl⟩ | ⟨g,cap,cur,rfl,_,hh,hn,_,_,ht⟩
 ·exact ⟨none,0,rfl,by omega,fun i hi=>by omega⟩
 ·refine ⟨some ⟨g,0,none⟩,cap,rfl,hn,fun i hi=>⟨g,0,rfl,?_⟩⟩
  have h1:(cur.toList.take (n * 1))[i]? = ((List.range n).map f)[i]?:=by rw [ht]
  rw [List.getElem?_take_of_lt (by omega)] at h1
  simp only [World.cell?,hh,Nat.zero_add,Option.isSome_none,Bool.false_eq_true,if_false]
  rw [<- Array.getElem?_toList,h1]
  simp [hi]
theorem QaL {α:Type} (l:List α) (d:α) (g:α->Value):l.map g=(List.range l.length).map fun i=>g (l.getD i d):=by
 apply List.ext_getElem
 ·simp
 ·intro i h1 h2
  have hi:i<l.length:=by simpa using h1
  simp [List.getD_eq_getElem?_getD,hi]
theorem KL {w:World} {base:Nat} {e:TypeId} {v:Value} {l:List Int} (h:w.ownsRow base e 1 v l.length (l.map (Value.int .i64))) :
  ∃ (A:Option Addr) (cap:Nat),v = .slice A l.length cap/\l.length<=cap/\QV w A l:=by
 rw [QaL l 0] at h
 exact Qfm h
theorem Qmv {w:World} {base:Nat} {e:TypeId} {v:Value} {l:List ByteArray} (h:w.ownsRow base e 1 v l.length (l.map Value.string)) :
  ∃ (A:Option Addr) (cap:Nat),v = .slice A l.length cap/\l.length<=cap/\ZM w A l:=by
 rw [QaL l Qt] at h
 exact Qfm h
section
variable {P:Program} {w:World}
theorem QeT (w:World) (base:Nat) (t ty e:TypeId) (i:TypeInfo) (size:Nat) (ht:P.underlying t=some (.slice e)) (hi:P.info? e=some i)
  (v:Value) (n:Nat) (xs:List Value) (hown:w.ownsRow base e size v n xs) (c:Nat):(Builtin.append_ #[t,t] ty #[v,.slice none 0 c]).run P w = .ok v w:=by
 rcases hown.2 with ⟨rfl,rfl⟩ | ⟨g,cap,cur,rfl,_,_,hnc,_⟩
 ·simp [Builtin.append_,run_underlying ht,sizeOf,typeInfo,hi,Builtin.lenOf,Builtin.firstCells]
 ·simp [Builtin.append_,run_underlying ht,sizeOf,typeInfo,hi,Builtin.lenOf,Builtin.firstCells,hnc,storeCells]
end
theorem QdI:∀ {l m:List Int},l.Pairwise (· < ·)->m.Pairwise (· < ·)->(∀ x,x ∈ l ↔ x ∈ m)->l=m
 | [],[],_,_,_=>rfl
 | [],b :: m,_,_,h=>by simpa using (h b).2 (by simp)
 | a :: l,[],_,_,h=>by simpa using (h a).1 (by simp)
 | a :: l,b :: m,hl,hm,h=>by
  rw [List.pairwise_cons] at hl hm
  have hab:a=b:=by
   have h1:=(h a).1 (by simp)
   have h2:=(h b).2 (by simp)
   simp only [List.mem_cons] at h1 h2
   rcases h1 with rfl | h1
   ·rfl
   ·rcases h2 with rfl | h2
    ·rfl
    ·have:=hm.1 a h1;have:=hl.1 b h2;omega
  subst hab
  congr 1
  refine QdI hl.2 hm.2 (fun x=>?_)
  constructor
  ·intro hx
   have:=(h x).1 (by simp [hx])
   simp only [List.mem_cons] at this
   rcases this with rfl | this
   ·exact absurd (hl.1 x hx) (by omega)
   ·exact this
  ·intro hx
   have:=(h x).2 (by simp [hx])
   simp only [List.mem_cons] at this
   rcases this with rfl | this
   ·exact absurd (hm.1 x hx) (by omega)
   ·exact this
theorem UG (d:Array Int) (hs:∀ i j,i<j->j<d.size->d[i]! <= d[j]!):∀ m,m<=d.size ->
  (Lib.compactUpTo d m).Pairwise (· < ·)/\∀ x,x ∈ Lib.compactUpTo d m ↔ ∃ j,j<m/\d[j]! = x
 | 0,_=>by simp [Lib.compactUpTo]
 | m+1,hm=>by
  obtain ⟨h1,h2⟩:=UG d hs m (by omega)
  rw [Lib.compactUpTo_succ]
  cases hk:Lib.keeps d m
  ·have hne:m ≠ 0/\d[m]! = d[m-1]!:=by
    have:=hk
    simp only [Lib.keeps,decide_eq_false_iff_not,not_or,ne_eq,Decidable.not_not] at this
    exact this
   simp only [Bool.false_eq_true,if_false,List.append_nil]
   refine ⟨h1,fun x=>?_⟩
   rw [h2]
   constructor
   ·rintro ⟨j,hj,e⟩;exact ⟨j,by omega,e⟩
   ·rintro ⟨j,hj,e⟩
    by_cases ej:j=m
    ·subst ej;exact ⟨j-1,by omega,by rw [<- hne.2];exact e⟩
    ·exact ⟨j,by omega,e⟩
  ·simp only [if_true]
   refine ⟨?_,fun x=>?_⟩
   ·rw [List.pairwise_append]
    refine ⟨h1,by simp,fun a ha b hb=>?_⟩
    simp only [List.mem_singleton] at hb
    subst hb
    obtain ⟨j,hj,rfl⟩:=(h2 a).1 ha
    have hle:=hs j m hj (by omega)
    have hne:m=0 \/ d[m]! ≠ d[m-1]!:=by simpa [Lib.keeps] using hk
    rcases hne with e | hne
    ·omega
    ·by_cases ej:j=m-1
     ·subst ej;omega
     ·have q1:=hs j (m-1) (by omega) (by omega)
      have q2:=hs (m-1) m (by omega) (by omega)
      omega
   ·rw [List.mem_append,h2]
    simp only [List.mem_singleton]
    constructor
    ·rintro (⟨j,hj,e⟩ | e)
     ·exact ⟨j,by omega,e⟩
     ·exact ⟨m,by omega,e.symm⟩
    ·rintro ⟨j,hj,e⟩
     by_cases ej:j=m
     ·subst ej;exact .inr e.symm
     ·exact .inl ⟨j,by omega,e⟩
theorem QgG (l r:List Int) (hr:r.Pairwise (· < ·)) (hm:∀ x,x ∈ l ↔ x ∈ r):Lib.compact (l.mergeSort fun x y=>decide (x<=y))=r:=by
 have hp:=List.mergeSort_perm l (fun x y=>decide (x<=y))
 have hsrt:(l.mergeSort fun x y=>decide (x<=y)).Pairwise fun x y=>decide (x<=y)=true :=
  List.pairwise_mergeSort (fun a b c h1 h2=>by simp only [decide_eq_true_eq] at *;omega) (fun a b=>by simp only [Bool.or_eq_true,decide_eq_true_eq];omega) l
 generalize l.mergeSort (fun x y=>decide (x<=y))=s at *
 have hs:∀ i j,i<j->j<s.toArray.size->s.toArray[i]! <= s.toArray[j]!:=by
  intro i j hij hj
  have hj':j<s.length:=by simpa using hj
  have:=List.pairwise_iff_getElem.1 hsrt i j (by omega) hj' hij
  simp only [decide_eq_true_eq] at this
  rw [getElem!_pos s.toArray i (by simp;omega),getElem!_pos s.toArray j (by simp;omega)]
  simpa using this
 obtain ⟨h1,h2⟩:=UG s.toArray hs s.length (by simp)
 refine QdI h1 hr (fun x=>?_)
 rw [show Lib.compact s=Lib.compactUpTo s.toArray s.length from rfl,h2, <- hm, <- hp.mem_iff,List.mem_iff_getElem]
 constructor
 ·rintro ⟨j,hj,e⟩
  rw [getElem!_pos s.toArray j (by simp;omega)] at e
  exact ⟨j,hj,by simpa using e⟩
 ·rintro ⟨j,hj,e⟩
  refine ⟨j,hj,?_⟩
  rw [getElem!_pos s.toArray j (by simp;omega)]
  simpa using e
section
variable {P:Program} {w:World}
theorem Zi {ops:Array Oper} {rest:List Oper} {o:Oper} {a:Act} {Q:Exit->Act->World->Prop} (hgd:o.guard=none) (s x:Operand) (t:TypeId)
  (ho:o.op = .call { callee:=.builtin .append,args:=#[s,x],argTypes:=#[t,t] })
  (base:Nat) (e:TypeId) (i:TypeInfo) (z:Value) (size bytes:Nat) (ht:P.underlying t=some (.slice e)) (hi:P.info? e=some i) (hz:i.zero=some z)
  (hsize:i.size=size) (hby:i.bytes=bytes) (hzs:z.cells.size=size) (hsz:0<size)
  (v:Value) (n:Nat) (xs:List Value) (hs:a.eval s=v) (hown:w.ownsRow base e size v n xs)
  (K:Option Addr) (m c:Nat) (news:List Value) (hx:a.eval x = .slice K m c) (hl:news.length=m * size) (hK:K=none->m=0) (hnews:∀ ad,K=some ad->∀ j u,news[j]? = some u->w.cell? (ad.add j)=some u) (h1:∀ u ∈ news,u.oneCell'=true)
  (h63:n+m<=maxLen) (hbytes:(n+m) * bytes<=140737488355328) (hbase:base<=w.heap.size)
  (h:∀ v' w',w'.ownsRow base e size v' (n+m) (xs ++ news)->w.grownBy w' v.ownBlock->(v'.ownBlock=v.ownBlock \/ v'.ownBlock=some w.heap.size)->wpList P ops Q rest (a.put o.dst v') w'):wpList P ops Q (o :: rest) a w:=by
 cases K with
 | some ad=>exact wpList_append_own_at w hgd s x t ho base e i z size bytes ht hi hz hsize hby hzs hsz v n xs hs hown ad m c news hx hl (hnews ad rfl) h1 h63 hbytes hbase (fun v' w' h1 h2 _ h3=>h v' w' h1 h2 h3)
 | none =>
  have hm:=hK rfl
  subst hm
  have hn0:news=[]:=List.eq_nil_of_length_eq_zero (by omega)
  subst hn0
  refine wpList_plain hgd fun _ hK'=>?_
  have hrun:=QeT w base t o.type e i size ht hi v n xs hown c
  unfold Oper.wp execOp
  simp only [ho,resolve,invoke,builtin,Sem.run_bind,Sem.run_pure,Result.andThen_ok,List.map_toArray,List.map_cons,List.map_nil,hs,hx,hrun]
  exact hK' _ _ (h v w (by simpa using hown) (World.grownBy.refl w _) (.inl rfl))
end
theorem Qcu {α:Type} {l:List α} {d:α} {p:α->Bool} {k:Nat} {x:α} (hk:k<l.length) (h:l.getD k d=x) (hx:p x=false):l.all p=false:=by
 rw [List.getD_eq_getElem?_getD,List.getElem?_eq_getElem hk] at h
 simp only [Option.getD_some] at h
 rw [List.all_eq_false]
 exact ⟨l[k],List.getElem_mem hk,by rw [h,hx];simp⟩
theorem JS {α:Type} {l:List α} {d:α} {p:α->Bool} {k:Nat} {x:α} (hk:k<l.length) (h:l.getD k d=x) (hx:p x=true) (ha:(l.take k).all p=true):(l.take (k+1)).all p=true:=by
 rw [List.getD_eq_getElem?_getD,List.getElem?_eq_getElem hk] at h
 simp only [Option.getD_some] at h
 rw [List.take_succ_eq_append_getElem hk,List.all_append,ha,h]
 simp [hx]
def Qa3 (x:Wr):Bool:=decide (x.key.size<=1000) && decide (x.val.text.size<=1000)
end Go.Proofs.YtcldpmkhpmlcbaaGreatDoor
