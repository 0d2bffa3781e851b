/- part -/
import Derived.Test.YtcldpmkhpmlcbaaGreatDoorJ1
import Derived.Test.YtcldpmkhpmlcbaaGreatDoorJ2
import Derived.Deep.AppendLies
import Derived.WalkSpells
import Derived.IntWalk
import Derived.Outline
set_option linter.unusedVariables false
set_option linter.unusedSimpArgs false
namespace Go.Proofs.YtcldpmkhpmlcbaaGreatDoor
open Go.RowKit Go.Shelf
structure Qad (l:List Wr):Prop where
 k:∀ i,i<l.length->(l.getD i Zf).key.size<=9223372036854775807
 v:∀ i,i<l.length->(l.getD i Zf).val.Good
 n:l.length<=9223372036854775807
theorem Y2 {a b:Bool} (h:a=b):Ending.returned (.bool b) = .returned (.bool a):=by rw [h]
structure OpD where
 kind:Int
 l:List Wr
 key:ByteArray
 upto:ByteArray
 num:Nat
 by8:Nat
instance:Inhabited OpD:=⟨⟨0,[],Qt,Qt,0,0⟩⟩
def Qdb:OpD:=⟨0,[],Qt,Qt,0,0⟩
structure Qpo (o:OpD):Prop where
 l:Qad o.l
 k:o.key.size<=9223372036854775807
 t:o.upto.size<=9223372036854775807
 n:o.num<18446744073709551616
 b:o.by8<256
def Qjb (w:World) (S:Option Addr) (l:List OpD) (LA:Nat->Option Addr) (LC:Nat->Nat):Prop :=
 ∀ i,i<l.length->∃ b off,S=some ⟨b,off,none⟩/\w.cell? ⟨b,off+i * 6,none⟩=some (.int .i64 (l.getD i Qdb).kind)/\w.cell? ⟨b,off+i * 6+1,none⟩=some (.slice (LA i) (l.getD i Qdb).l.length (LC i)) /\
  w.cell? ⟨b,off+i * 6+2,none⟩=some (.string (l.getD i Qdb).key)/\w.cell? ⟨b,off+i * 6+3,none⟩=some (.string (l.getD i Qdb).upto)/\w.cell? ⟨b,off+i * 6+4,none⟩=some (.int .u64 ((l.getD i Qdb).num:Nat)) /\
  w.cell? ⟨b,off+i * 6+5,none⟩=some (.int .u8 ((l.getD i Qdb).by8:Nat))/\Yf w (LA i) (l.getD i Qdb).l
theorem Qjb.later {w w':World} {S:Option Addr} {l:List OpD} {LA:Nat->Option Addr} {LC:Nat->Nat} (h:Qjb w S l LA LC) (hb:Below w.heap.size w w'):Qjb w' S l LA LC:=by
 intro i hi
 obtain ⟨b,off,e,h0,h1,h2,h3,h4,h5,h6⟩:=h i hi
 exact ⟨b,off,e,keep hb h0,keep hb h1,keep hb h2,keep hb h3,keep hb h4,keep hb h5,h6.later hb⟩
structure Q0 where
 num:Nat
 val:JQ
structure It where
 key:ByteArray
 val:JQ
 num:Nat
def Qjc:JQ:=⟨0,0,Qt⟩
def Yg:Q0:=⟨0,Qjc⟩
def JT:It:=⟨Qt,Qjc,0⟩
instance:Inhabited Q0:=⟨Yg⟩
instance:Inhabited It:=⟨JT⟩
abbrev KV:=List (ByteArray × List Q0)
def getK:KV->ByteArray->List Q0
 | [],_=>[]
 | p :: m,k=>if p.1=k then p.2 else getK m k
def Jg:KV->ByteArray->List Q0->KV
 | [],k,l=>[(k,l)]
 | p :: m,k,l=>if Qy p.1 k=true then p :: Jg m k l else if p.1=k then (k,l) :: m else (k,l) :: p :: m
def Z8 (p:ByteArray × List Q0):List It:=p.2.map fun v=>⟨p.1,v.val,v.num⟩
def Qq (m:KV):List It:=m.flatMap Z8
def Zg (m:KV):Prop:=m.Pairwise fun p q=>Qy p.1 q.1=true
theorem Jh {a b:ByteArray} (h:Qy a b=true):a ≠ b:=fun e=>by rw [e,VU] at h;cases h
theorem QbO {m:KV} {k:ByteArray} (h:∀ p ∈ m,p.1 ≠ k):getK m k=[]:=by
 induction m with
 | nil=>rfl
 | cons p m ih=>rw [getK,if_neg (h p (by simp)),ih fun q hq=>h q (by simp [hq])]
theorem Qmz {m:KV} {k:ByteArray} {p:ByteArray × List Q0} (h:Zg (p :: m)) (hk:Qy k p.1=true):getK (p :: m) k=[]:=by
 refine QbO fun q hq=>?_
 rcases List.mem_cons.1 hq with rfl | hq
 ·exact (Jh hk).symm
 ·exact (Jh (Y1 hk ((List.pairwise_cons.1 h).1 q hq))).symm
theorem Qa8 {m:KV} {k:ByteArray} {l:List Q0} (h:Zg m) (hm:(k,l) ∈ m):getK m k=l:=by
 induction m with
 | nil=>cases hm
 | cons p m ih =>
  obtain ⟨h1,h2⟩:=List.pairwise_cons.1 h
  rcases List.mem_cons.1 hm with rfl | hm
  ·simp [getK]
  ·rw [getK,if_neg (Jh (h1 _ hm)),ih h2 hm]
theorem Qdc {m:KV} {k:ByteArray} {l:List Q0} {q:ByteArray × List Q0} (h:q ∈ Jg m k l):q=(k,l) \/ q ∈ m:=by
 induction m with
 | nil=>left;simpa [Jg] using h
 | cons p m ih =>
  unfold Jg at h
  split at h
  ·rcases List.mem_cons.1 h with rfl | h
   ·right;simp
   ·rcases ih h with e | h
    ·exact .inl e
    ·exact .inr (by simp [h])
  ·split at h
   ·rcases List.mem_cons.1 h with e | h
    ·exact .inl e
    ·exact .inr (by simp [h])
   ·rcases List.mem_cons.1 h with e | h
    ·exact .inl e
    ·exact .inr h
theorem J9 {m:KV} (h:Zg m) (k:ByteArray) (l:List Q0):Zg (Jg m k l):=by
 induction m with
 | nil=>simp [Jg,Zg]
 | cons p m ih =>
  obtain ⟨h1,h2⟩:=List.pairwise_cons.1 h
  unfold Jg
  split
  ·rename_i hk
   refine List.pairwise_cons.2 ⟨fun q hq=>?_,ih h2⟩
   rcases Qdc hq with rfl | hq
   ·exact hk
   ·exact h1 q hq
  ·split
   ·rename_i hk e
    subst e
    exact List.pairwise_cons.2 ⟨fun q hq=>h1 q hq,h2⟩
   ·rename_i hk e
    have hkp:Qy k p.1=true:=by
     cases h':Qy k p.1
     ·exact absurd (VV (by simpa using hk) h') e
     ·rfl
    refine List.pairwise_cons.2 ⟨fun q hq=>?_,h⟩
    rcases List.mem_cons.1 hq with rfl | hq
    ·exact hkp
    ·exact Y1 hkp (h1 q hq)
theorem KU {m:KV} (h:Zg m) (k:ByteArray) (l:List Q0) (x:ByteArray):getK (Jg m k l) x=if x=k then l else getK m x:=by
 induction m with
 | nil =>
  by_cases e:x=k
  ·subst e;simp [Jg,getK]
  ·simp [Jg,getK,e,Ne.symm e]
 | cons p m ih =>
  obtain ⟨h1,h2⟩:=List.pairwise_cons.1 h
  unfold Jg
  by_cases hk:Qy p.1 k=true
  ·rw [if_pos hk,getK,ih h2,getK]
   by_cases e:x=k
   ·subst e;rw [if_neg (Jh hk),if_pos rfl,if_pos rfl]
   ·rw [if_neg e,if_neg e]
  ·rw [if_neg hk]
   by_cases e:p.1=k
   ·rw [if_pos e]
    subst e
    by_cases ex:x=p.1
    ·subst ex;simp [getK]
    ·rw [getK,if_neg (Ne.symm ex),if_neg ex,getK,if_neg (Ne.symm ex)]
   ·rw [if_neg e,getK]
    by_cases ex:k=x
    ·subst ex;simp
    ·rw [if_neg ex,if_neg (Ne.symm ex)]
def Qay (L:List It) (x:It):List It:=L.takeWhile (fun y=>Qy y.key x.key) ++ x :: L.dropWhile (fun y=>Qy y.key x.key)
theorem Qaz {p:ByteArray × List Q0} {x:It} (h:x ∈ Z8 p):x.key=p.1:=by
 obtain ⟨v,_,rfl⟩:=List.mem_map.1 h;rfl
theorem Qfq {m:KV} {x:It} (h:x ∈ Qq m):∃ p ∈ m,x.key=p.1:=by
 obtain ⟨p,hp,hx⟩:=List.mem_flatMap.1 h
 exact ⟨p,hp,Qaz hx⟩
theorem Ji {α:Type} {p:α->Bool} {l m:List α} (h:∀ x ∈ l,p x=true):(l ++ m).takeWhile p=l ++ m.takeWhile p:=by
 induction l with
 | nil=>rfl
 | cons a l ih=>simp [h a (by simp),ih fun x hx=>h x (by simp [hx])]
theorem K8 {α:Type} {p:α->Bool} {l m:List α} (h:∀ x ∈ l,p x=true):(l ++ m).dropWhile p=m.dropWhile p:=by
 induction l with
 | nil=>rfl
 | cons a l ih=>simp [h a (by simp),ih fun x hx=>h x (by simp [hx])]
theorem Qjd {α:Type} {p:α->Bool} {l:List α} (h:∀ x ∈ l,p x=false):l.takeWhile p=[]/\l.dropWhile p=l:=by
 cases l with
 | nil=>exact ⟨rfl,rfl⟩
 | cons a l=>simp [h a (by simp)]
theorem QdJ {m:KV} (h:Zg m) (k:ByteArray) (v:Q0):Qay (Qq m) ⟨k,v.val,v.num⟩=Qq (Jg m k (v :: getK m k)):=by
 induction m with
 | nil=>rfl
 | cons p m ih =>
  obtain ⟨h1,h2⟩:=List.pairwise_cons.1 h
  have e0:Qq (p :: m)=Z8 p ++ Qq m:=rfl
  unfold Jg
  by_cases hk:Qy p.1 k=true
  ·rw [if_pos hk,getK,if_neg (Jh hk)]
   have hall:∀ x ∈ Z8 p,(fun y:It=>Qy y.key k) x=true:=fun x hx=>by show Qy x.key k=true;rw [Qaz hx];exact hk
   rw [Qay,e0]
   simp only
   rw [Ji hall,K8 hall,show Qq (p :: Jg m k (v :: getK m k))=Z8 p ++ Qq (Jg m k (v :: getK m k)) from rfl, <- ih h2,Qay,List.append_assoc]
  ·rw [if_neg hk]
   have hno:∀ x ∈ Qq (p :: m),(fun y:It=>Qy y.key k) x=false:=fun x hx=>by
    obtain ⟨q,hq,e⟩:=Qfq hx
    show Qy x.key k=false
    rw [e]
    rcases List.mem_cons.1 hq with rfl | hq
    ·simpa using hk
    ·cases h':Qy q.1 k
     ·rfl
     ·exact absurd (Y1 (h1 q hq) h') hk
   have hw:=Qjd hno
   rw [Qay]
   simp only
   rw [hw.1,hw.2,List.nil_append]
   by_cases e:p.1=k
   ·subst e
    rw [if_pos rfl,getK,if_pos rfl]
    rfl
   ·have hkp:Qy k p.1=true:=by
     cases h':Qy k p.1
     ·exact absurd (VV (by simpa using hk) h') e
     ·rfl
    rw [if_neg e,Qmz h hkp]
    rfl
def Z3 (l:List Q0) (n:Nat):Q0:=(l.find? fun v=>decide (v.num<=n)).getD Yg
def KB (L:List It) (k:ByteArray) (n:Nat):Q0:=((L.find? fun x=>decide (x.key=k) && decide (x.num<=n)).map fun x=>(⟨x.num,x.val⟩:Q0)).getD Yg
theorem KW {α:Type} {p:α->Bool} {l:List α} (h:∀ x ∈ l,p x=false):l.find? p=none:=by
 rw [List.find?_eq_none];intro x hx;simp [h x hx]
theorem QgK (k:ByteArray) (l:List Q0) (n:Nat):((Z8 (k,l)).find? fun x=>decide (x.key=k) && decide (x.num<=n))=(l.find? fun v=>decide (v.num<=n)).map fun v=>(⟨k,v.val,v.num⟩:It):=by
 induction l with
 | nil=>rfl
 | cons v l ih =>
  have e:Z8 (k,v :: l)=⟨k,v.val,v.num⟩ :: Z8 (k,l):=rfl
  rw [e,List.find?_cons,List.find?_cons,ih]
  by_cases hv:v.num<=n <;> simp [hv]
theorem QcM {m:KV} (h:Zg m) (k:ByteArray) (n:Nat):KB (Qq m) k n=Z3 (getK m k) n:=by
 induction m with
 | nil=>rfl
 | cons p m ih =>
  obtain ⟨h1,h2⟩:=List.pairwise_cons.1 h
  obtain ⟨k',l'⟩:=p
  have e0:Qq ((k',l') :: m)=Z8 (k',l') ++ Qq m:=rfl
  by_cases e:k'=k
  ·subst e
   have hm:(Qq m).find? (fun x=>decide (x.key=k') && decide (x.num<=n))=none:=KW fun x hx=>by
    obtain ⟨q,hq,e⟩:=Qfq hx
    have:=Jh (h1 q hq)
    simp [e,Ne.symm this]
   rw [KB,e0,List.find?_append,hm,QgK,getK,if_pos rfl,Z3]
   cases (l'.find? fun v=>decide (v.num<=n)) <;> rfl
  ·have hm:(Z8 (k',l')).find? (fun x=>decide (x.key=k) && decide (x.num<=n))=none:=KW fun x hx=>by
    have:=Qaz hx
    simp only at this
    simp [this,e]
   rw [KB,e0,List.find?_append,hm,getK,if_neg e, <- ih h2]
   rfl
structure QR where
 ks:KV
 last:Nat
 low:Nat
def KM (l:List Wr) (k:Nat):Bool:=Yb (l.getD k Zf).key && Ze (l.getD k Zf).val && (k == 0 || Qy (l.getD (k-1) Zf).key (l.getD k Zf).key)
def ZR (l:List Wr):Nat->Bool
 | 0=>true
 | k+1=>ZR l k && KM l k
def Yv (l:List Wr):Bool:=ZR l l.length
def JU (n:Nat) (m:KV) (x:Wr):KV:=Jg m x.key (⟨n,x.val⟩ :: getK m x.key)
def Zx (n:Nat) (m:KV) (l:List Wr):KV:=l.foldl (JU n) m
def QH (s:QR) (n:Nat) (l:List Wr):QR:=if n<=s.last then s else if Yv l then ⟨Zx n s.ks l,n,s.low⟩ else s
def UJ (s:QR) (n:Nat) (l:List Wr):Int:=if n<=s.last then 1 else if Yv l then 0 else 2
theorem Qbz {l:List Wr} {k n:Nat} (hk:k<n) (h:KM l k=false):ZR l n=false:=by
 induction n with
 | zero=>omega
 | succ n ih =>
  by_cases e:k=n
  ·subst e;simp [ZR,h]
  ·simp [ZR,ih (by omega)]
theorem QgL {l : List Wr} {k n : Nat} (hk : k <= n) (h : ZR l n = true) : ZR l k = true := by
  induction n with
  | zero => obtain rfl : k = 0 := by omega
            exact h
  | succ n ih =>
    by_cases e : k = n + 1
    · subst e; exact h
    · simp only [ZR, Bool.and_eq_true] at h
      exact ih (by omega) h.1
theorem QcN {n:Nat} (l:List Wr) {m:KV} (h:Zg m):Zg (Zx n m l):=by
 induction l generalizing m with
 | nil=>exact h
 | cons x l ih=>exact ih (J9 h _ _)
theorem QdK (n:Nat) (m:KV) (l:List Wr) (x:Wr):Zx n m (l ++ [x])=JU n (Zx n m l) x:=by simp [Zx,List.foldl_append]
def Zp:List Q0->Nat->List Q0
 | [],_=>[]
 | v :: l,low=>if low<v.num then v :: Zp l low else if v.val.kind=0 then [] else [v]
def Ul (l:List Q0):Prop:=l.Pairwise fun a b=>b.num<a.num
def KC (l:List Q0) (low:Nat) (v:Q0):Bool:=decide (low<v.num) || (decide (v.num=(Z3 l low).num) && !decide (v.val.kind=0))
theorem Ub {v:Q0} {l:List Q0} {n:Nat} (h:n<v.num):Z3 (v :: l) n=Z3 l n:=by
 have:decide (v.num<=n)=false:=by simp;omega
 rw [Z3,List.find?_cons,this];rfl
theorem Js {v:Q0} {l:List Q0} {n:Nat} (h:v.num<=n):Z3 (v :: l) n=v:=by
 rw [Z3,List.find?_cons,decide_eq_true h];rfl
theorem Qh2 {l:List Q0} (h:Ul l) (low:Nat):l.filter (KC l low)=Zp l low:=by
 induction l with
 | nil=>rfl
 | cons v l ih =>
  obtain ⟨h1,h2⟩:=List.pairwise_cons.1 h
  by_cases hv:low<v.num
  ·rw [Zp,if_pos hv, <- ih h2,List.filter_cons,if_pos (by simp [KC,hv])]
   congr 1
   refine List.filter_congr fun x hx=>?_
   rw [KC,KC,Ub hv]
  ·have hs:=Js (l:=l) (show v.num<=low by omega)
   have hl:l.filter (KC (v :: l) low)=[]:=by
    rw [List.filter_eq_nil_iff]
    intro x hx
    have:=h1 x hx
    rw [KC,hs]
    simp;omega
   rw [Zp,if_neg hv,List.filter_cons,hl,KC,hs]
   by_cases hk:v.val.kind=0
   ·rw [if_pos hk];simp [hv,hk]
   ·rw [if_neg hk];simp [hk]
theorem Qa9 {l:List Q0} {low:Nat}:∀ v ∈ Zp l low,v ∈ l:=by
 induction l with
 | nil=>simp [Zp]
 | cons v l ih =>
  intro x hx
  unfold Zp at hx
  split at hx
  ·rcases List.mem_cons.1 hx with rfl | hx
   ·simp
   ·simp [ih x hx]
  ·split at hx
   ·cases hx
   ·rcases List.mem_cons.1 hx with rfl | hx
    ·simp
    ·cases hx
theorem Qje {l:List Q0} (h:Ul l) (low:Nat):Ul (Zp l low):=by
 induction l with
 | nil=>exact h
 | cons v l ih =>
  obtain ⟨h1,h2⟩:=List.pairwise_cons.1 h
  unfold Zp
  split
  ·exact List.pairwise_cons.2 ⟨fun x hx=>h1 x (Qa9 x hx),ih h2⟩
  ·split <;> simp [Ul]
theorem Qjf (l:List Q0) (low:Nat):Zp (Zp l low) low=Zp l low:=by
 induction l with
 | nil=>rfl
 | cons v l ih =>
  rw [Zp]
  split
  ·rename_i h;rw [Zp,if_pos h,ih]
  ·split
   ·rfl
   ·rename_i h1 h2;rw [Zp,if_neg h1,if_neg h2]
theorem QkJ (l:List Q0) {low n:Nat} (h:low<=n):(Z3 (Zp l low) n).val.kind=(Z3 l n).val.kind/\((Z3 l n).val.kind ≠ 0->Z3 (Zp l low) n=Z3 l n):=by
 induction l with
 | nil=>exact ⟨rfl,fun _=>rfl⟩
 | cons v l ih =>
  rw [Zp]
  by_cases hn:v.num<=n
  ·rw [Js hn]
   split
   ·rw [Js hn];exact ⟨rfl,fun _=>rfl⟩
   ·split
    ·rename_i h0;exact ⟨h0.symm,fun hk=>absurd h0 hk⟩
    ·rw [Js hn];exact ⟨rfl,fun _=>rfl⟩
  ·have:low<v.num:=by omega
   rw [if_pos this,Ub (by omega),Ub (by omega)]
   exact ih
def Xk:KV->Nat->KV
 | [],_=>[]
 | p :: m,low=>if (Zp p.2 low).isEmpty then Xk m low else (p.1,Zp p.2 low) :: Xk m low
theorem Qdd {m:KV} {low:Nat} {q:ByteArray × List Q0} (h:q ∈ Xk m low):∃ p ∈ m,q=(p.1,Zp p.2 low)/\Zp p.2 low ≠ []:=by
 induction m with
 | nil=>cases h
 | cons p m ih =>
  rw [Xk] at h
  split at h
  ·obtain ⟨p',hp',r⟩:=ih h;exact ⟨p',by simp [hp'],r⟩
  ·rename_i hne
   rcases List.mem_cons.1 h with rfl | h
   ·exact ⟨p,by simp,rfl,by simpa using hne⟩
   ·obtain ⟨p',hp',r⟩:=ih h;exact ⟨p',by simp [hp'],r⟩
theorem Qjg {m:KV} (h:Zg m) (low:Nat):Zg (Xk m low):=by
 induction m with
 | nil=>exact h
 | cons p m ih =>
  obtain ⟨h1,h2⟩:=List.pairwise_cons.1 h
  rw [Xk]
  split
  ·exact ih h2
  ·refine List.pairwise_cons.2 ⟨fun q hq=>?_,ih h2⟩
   obtain ⟨p',hp',rfl,_⟩:=Qdd hq
   exact h1 p' hp'
theorem QkK {m:KV} (h:Zg m) (low:Nat) (k:ByteArray):getK (Xk m low) k=Zp (getK m k) low:=by
 induction m with
 | nil=>rfl
 | cons p m ih =>
  obtain ⟨h1,h2⟩:=List.pairwise_cons.1 h
  rw [Xk,getK]
  by_cases e:p.1=k
  ·rw [if_pos e]
   split
   ·rename_i he
    rw [ih h2,QbO (fun q hq=>e ▸ (Jh (h1 q hq)).symm)]
    have h0:Zp p.2 low=[]:=by simpa using he
    rw [h0];rfl
   ·rw [getK,if_pos e]
  ·rw [if_neg e]
   split
   ·exact ih h2
   ·rw [getK,if_neg e,ih h2]
theorem QdL {m:KV} (h:Zg m) (hf:∀ p ∈ m,Ul p.2) (low:Nat):(Qq m).filter (fun x=>KC (getK m x.key) low ⟨x.num,x.val⟩)=Qq (Xk m low):=by
 have key:∀ m':KV,(∀ p ∈ m',p ∈ m)->(Qq m').filter (fun x=>KC (getK m x.key) low ⟨x.num,x.val⟩)=Qq (Xk m' low):=by
  intro m'
  induction m' with
  | nil=>intro _;rfl
  | cons p m' ih =>
   intro hm
   obtain ⟨k,l⟩:=p
   have hp:=hm (k,l) (by simp)
   have e1:(Z8 (k,l)).filter (fun x=>KC (getK m x.key) low ⟨x.num,x.val⟩)=Z8 (k,Zp l low):=by
    rw [Z8,List.filter_map, <- Qh2 (hf _ hp) low,Z8]
    congr 1
    refine List.filter_congr fun v hv=>?_
    simp only [Function.comp]
    rw [Qa8 h hp]
   have e2:=ih fun p hp=>hm p (by simp [hp])
   rw [show Qq ((k,l) :: m')=Z8 (k,l) ++ Qq m' from rfl,List.filter_append,e1,e2,Xk]
   split
   ·rename_i he
    have:Zp l low=[]:=by simpa using he
    rw [this];rfl
   ·rfl
 exact key m fun _ h=>h
def KN (s:QR) (k:ByteArray) (n:Nat):Q0:=if n<s.low then Yg else Z3 (getK s.ks k) n
def Qba (s:QR) (n:Nat):Int:=if n<s.low then 9 else 0
def QkL (m:KV):Nat:=(Qq m).length
def Xy (s:QR) (low:Nat):Bool:=decide (s.low<=low) && decide (low<=s.last)
def Zv (s:QR) (low:Nat):QR:=if Xy s low then ⟨Xk s.ks low,s.last,low⟩ else s
def Qjh (s:QR) (low:Nat):Int:=if Xy s low then (QkL s.ks:Int)-(QkL (Xk s.ks low):Int) else 0
def Qji (s:QR) (low:Nat):Int:=if Xy s low then 0 else 1
def Kt:QR:=⟨[],0,0⟩
structure Yw (s:QR):Prop where
 rises:Zg s.ks
 ne:∀ p ∈ s.ks,p.2 ≠ []
 falls:∀ p ∈ s.ks,Ul p.2
 top:∀ p ∈ s.ks,∀ v ∈ p.2,1<=v.num/\v.num<=s.last
 key:∀ p ∈ s.ks,Yb p.1=true
 val:∀ p ∈ s.ks,∀ v ∈ p.2,Ze v.val=true
 cut:∀ p ∈ s.ks,Zp p.2 s.low=p.2
 low:s.low<=s.last
theorem QgM:Yw Kt:=⟨by simp [Zg,Kt],by simp [Kt],by simp [Kt],by simp [Kt],by simp [Kt],by simp [Kt],by simp [Kt],by simp [Kt]⟩
theorem Vx {m:KV} {k:ByteArray} (h:getK m k ≠ []):(k,getK m k) ∈ m:=by
 induction m with
 | nil=>exact absurd rfl h
 | cons p m ih =>
  rw [getK] at h ⊢
  split
  ·rename_i e;subst e;simp
  ·rename_i e;rw [if_neg e] at h;simp [ih h]
theorem Yw.getK {s:QR} (h:Yw s) (k:ByteArray):Ul (getK s.ks k)/\(∀ v ∈ getK s.ks k,1<=v.num/\v.num<=s.last)/\(∀ v ∈ getK s.ks k,Ze v.val=true)/\Zp (getK s.ks k) s.low=getK s.ks k:=by
 by_cases hk:Go.Proofs.YtcldpmkhpmlcbaaGreatDoor.getK s.ks k=[]
 ·rw [hk];exact ⟨by simp [Ul],by simp,by simp,rfl⟩
 ·have hm:=Vx hk
  exact ⟨h.falls _ hm,h.top _ hm,h.val _ hm,h.cut _ hm⟩
theorem QmA {l:List Wr} (h:Yv l=true) {k:Nat} (hk:k<l.length):Yb (l.getD k Zf).key=true/\Ze (l.getD k Zf).val=true:=by
 have:=QgL (Nat.succ_le_of_lt hk) h
 simp only [ZR,KM,Bool.and_eq_true] at this
 exact ⟨this.2.1.1,this.2.1.2⟩
structure Qjj (m:KV) (last low n:Nat) (seen:List Wr):Prop where
 rises:Zg m
 ne:∀ p ∈ m,p.2 ≠ []
 falls:∀ p ∈ m,Ul p.2
 top:∀ p ∈ m,∀ v ∈ p.2,1<=v.num/\(v.num<=last \/ (v.num=n/\∃ x ∈ seen,x.key=p.1))
 key:∀ p ∈ m,Yb p.1=true
 val:∀ p ∈ m,∀ v ∈ p.2,Ze v.val=true
 cut:∀ p ∈ m,Zp p.2 low=p.2
theorem QmB {m:KV} {last low n:Nat} {seen:List Wr} {x:Wr} (h:Qjj m last low n seen) (hn:last<n) (hl:low<=last) (hk:Yb x.key=true) (hv:Ze x.val=true) (hx:∀ y ∈ seen,y.key ≠ x.key):Qjj (JU n m x) last low n (seen ++ [x]):=by
 have hold:∀ v ∈ Go.Proofs.YtcldpmkhpmlcbaaGreatDoor.getK m x.key,v.num<=last:=fun v hv=>by
  have hm:=Vx (List.ne_nil_of_mem hv)
  rcases (h.top _ hm v hv).2 with h1 | ⟨_,y,hy,e⟩
  ·exact h1
  ·exact absurd e (hx y hy)
 have hg:∀ p ∈ JU n m x,p=(x.key,(⟨n,x.val⟩:Q0) :: Go.Proofs.YtcldpmkhpmlcbaaGreatDoor.getK m x.key) \/ p ∈ m:=fun p hp=>Qdc hp
 refine ⟨J9 h.rises _ _,fun p hp=>?_,fun p hp=>?_,fun p hp=>?_,fun p hp=>?_,fun p hp=>?_,fun p hp=>?_⟩
 ·rcases hg p hp with rfl | hp
  ·simp
  ·exact h.ne p hp
 ·rcases hg p hp with rfl | hp
  ·refine List.pairwise_cons.2 ⟨fun v hv=>by have:=hold v hv;show v.num<n;omega,?_⟩
   by_cases e:Go.Proofs.YtcldpmkhpmlcbaaGreatDoor.getK m x.key=[]
   ·rw [e];exact List.Pairwise.nil
   ·exact h.falls _ (Vx e)
  ·exact h.falls p hp
 ·intro v hv
  rcases hg p hp with rfl | hp
  ·rcases List.mem_cons.1 hv with rfl | hv
   ·exact ⟨by show 1<=n;omega,.inr ⟨rfl,x,by simp,rfl⟩⟩
   ·exact ⟨(h.top _ (Vx (List.ne_nil_of_mem hv)) v hv).1,.inl (hold v hv)⟩
  ·refine ⟨(h.top p hp v hv).1,?_⟩
   rcases (h.top p hp v hv).2 with h1 | ⟨h1,y,hy,e⟩
   ·exact .inl h1
   ·exact .inr ⟨h1,y,by simp [hy],e⟩
 ·rcases hg p hp with rfl | hp
  ·exact hk
  ·exact h.key p hp
 ·intro v hv'
  rcases hg p hp with rfl | hp
  ·rcases List.mem_cons.1 hv' with rfl | hv'
   ·exact hv
   ·exact h.val _ (Vx (List.ne_nil_of_mem hv')) v hv'
  ·exact h.val p hp v hv'
 ·rcases hg p hp with rfl | hp
  ·show Zp (_ :: _) low=_
   rw [Zp,if_pos (show low<n by omega)]
   by_cases e:Go.Proofs.YtcldpmkhpmlcbaaGreatDoor.getK m x.key=[]
   ·rw [e];rfl
   ·rw [h.cut _ (Vx e)]
  ·exact h.cut p hp
theorem QnI {l:List Wr} (h:Yv l=true):∀ {i k:Nat},i<k->k<l.length->Qy (l.getD i Zf).key (l.getD k Zf).key=true:=by
 intro i k hik hk
 induction k with
 | zero=>omega
 | succ k ih =>
  have:=QgL (Nat.succ_le_of_lt hk) h
  simp only [ZR,KM,Bool.and_eq_true,Bool.or_eq_true,beq_iff_eq] at this
  have h2:Qy (l.getD k Zf).key (l.getD (k+1) Zf).key=true:=by
   rcases this.2.2 with e | e
   ·omega
   ·simpa using e
  by_cases e:i=k
  ·subst e;exact h2
  ·exact Y1 (ih (by omega) (by omega)) h2
theorem Qoq {s:QR} {n:Nat} {l:List Wr} (h:Yw s) (hn:s.last<n) (hl:Yv l=true):∀ k,k<=l.length->Qjj (Zx n s.ks (l.take k)) s.last s.low n (l.take k):=by
 intro k
 induction k with
 | zero=>intro _;exact ⟨h.rises,h.ne,h.falls,fun p hp v hv=>⟨(h.top p hp v hv).1,.inl (h.top p hp v hv).2⟩,h.key,h.val,h.cut⟩
 | succ k ih =>
  intro hk
  have e:l.getD k Zf=l[k]:=by rw [List.getD_eq_getElem?_getD,List.getElem?_eq_getElem (by omega)];rfl
  rw [List.take_succ_eq_append_getElem (by omega),QdK, <- e]
  have h2:=QmA hl (show k<l.length by omega)
  refine QmB (ih (by omega)) hn h.low h2.1 h2.2 fun y hy=>?_
  obtain ⟨i,hi,rfl⟩:=List.mem_iff_getElem.1 hy
  simp only [List.length_take] at hi
  have:=QnI hl (show i<k by omega) (by omega)
  rw [List.getElem_take]
  rw [List.getD_eq_getElem?_getD,List.getElem?_eq_getElem (show i<l.length by omega)] at this
  exact Jh this
theorem Vy {s:QR} (h:Yw s) (n:Nat) (l:List Wr):Yw (QH s n l):=by
 unfold QH
 split
 ·exact h
 ·split
  ·rename_i hn hl
   have hm:=Qoq h (show s.last<n by omega) hl l.length (Nat.le_refl _)
   rw [List.take_length] at hm
   refine ⟨hm.rises,hm.ne,hm.falls,fun p hp v hv=>⟨(hm.top p hp v hv).1,?_⟩,hm.key,hm.val,hm.cut,?_⟩
   ·show v.num<=n
    rcases (hm.top p hp v hv).2 with h1 | ⟨h1,_⟩ <;> omega
   ·show s.low<=n
    have:=h.low
    omega
  ·exact h
theorem QdM {s:QR} (h:Yw s) (n:Nat):Yw (Zv s n):=by
 unfold Zv
 split
 ·rename_i hc
  simp only [Xy,Bool.and_eq_true,decide_eq_true_eq] at hc
  refine ⟨Qjg h.rises _,fun p hp=>?_,fun p hp=>?_,fun p hp v hv=>?_,fun p hp=>?_,fun p hp v hv=>?_,fun p hp=>?_,hc.2⟩
  all_goals obtain ⟨q,hq,rfl,hne⟩:=Qdd hp
  ·exact hne
  ·exact Qje (h.falls q hq) _
  ·exact h.top q hq v (Qa9 v hv)
  ·exact h.key q hq
  ·exact h.val q hq v (Qa9 v hv)
  ·exact Qjf _ _
 ·exact h
def Xu (v:Q0):List Value:=[.int .u64 (v.num:Int),.int .i64 v.val.kind,.int .u64 (v.val.bits:Int),.string v.val.text]
def ZH (l:List Q0):List Value:=l.flatMap Xu
theorem Qjk (v:Q0) (l:List Q0):ZH (v :: l)=Xu v ++ ZH l:=rfl
theorem VY:∀ l:List Q0,(ZH l).length=l.length * 4
 | []=>rfl
 | x :: l=>by have:=VY l;rw [Qjk,List.length_append,this];simp [Xu];omega
theorem Qbb (v:Q0):∀ u ∈ Xu v,u.oneCell'=true:=fun u hu=>by
 simp only [Xu,List.mem_cons,List.not_mem_nil,or_false] at hu
 rcases hu with rfl | rfl | rfl | rfl <;> rfl
theorem QbP (l:List Q0):∀ u ∈ ZH l,u.oneCell'=true:=fun u hu=>by
 obtain ⟨x,_,hu⟩:=List.mem_flatMap.1 hu
 exact Qbb x u hu
theorem Qde:(Tryz.prog.info? 195).map (fun i=>(i.zero,i.size,i.bytes))=some (some (.agg #[.int .u64 0,.int .i64 0,.int .u64 0,.string ByteArray.empty]),4,40):=by kernel_rfl
def KO (w:World) (B:Nat) (v:Value) (l:List Q0):Prop:=w.ownsRow B 195 4 v l.length (ZH l)
def QnJ (w:World) (B:Nat) (v0:Value) (l:List Q0) (e:Ending) (w':World):Prop :=
 ∃ v',e = .returned v'/\KO w' B v' l/\w.grownBy w' v0.ownBlock/\(v'.ownBlock=v0.ownBlock \/ ∃ g,v'.ownBlock=some g/\w.heap.size<=g)
theorem QeV {a b n k:Nat} (h:a<=b) (hn:n=a * k):n=Nat.min a b * k:=by rw [show Nat.min a b=a from Nat.min_eq_left h];exact hn
theorem QgN (l m:List Q0):ZH (l ++ m)=ZH l ++ ZH m:=by simp [ZH]
theorem QkM (v:Q0):∀ (w:World) (vb:Nat),w.heap[vb]? = some (.cells (Xu v).toArray 195 (0,0))->∀ j u,(Xu v)[j]? = some u->w.cell? ((⟨vb,0,none⟩:Addr).add j)=some u:=fun w vb h j u hu=>by
 rw [Go.WideShapes.add_plain,cell_of_row w vb (0+j) _ _ (0,0) h, <- hu]
 simp
theorem QnK {a b n k:Nat} (h:b<=a) (hn:n=b * k):n=Nat.min a b * k:=by rw [show Nat.min a b=b from Nat.min_eq_right h];exact hn
theorem Qjl {α:Type} (L c x:List α):(splice (splice L 0 c) c.length x).take (c.length+x.length)=c ++ x:=by
 have e:(splice L 0 c)=c ++ L.drop c.length:=by simp [splice]
 rw [e,splice,List.take_left, <- List.append_assoc]
 exact List.take_left' (by simp)
theorem Qh3 {α:Type} (L c x:List α) (h:c.length+x.length<=L.length):(splice (splice L c.length x) 0 c).take (c.length+x.length)=c ++ x:=by
 have e:(splice L c.length x).drop c.length=x ++ L.drop (c.length+x.length):=by
  rw [splice,List.drop_append_of_le_length (by simp;omega),List.drop_take_self,List.nil_append]
 rw [splice,List.take_zero,List.nil_append,Nat.zero_add,e, <- List.append_assoc]
 exact List.take_left' (by simp)
set_option maxRecDepth 100000 in
set_option maxHeartbeats 2000000 in
theorem Qjm (l:List Q0) (v:Q0) (B vb:Nat) (v0:Value) (w:World) (h0:KO w B v0 l) (hv:w.heap[vb]? = some (.cells (Xu v).toArray 195 (0,0))) (hne:v0.ownBlock ≠ some vb) (hB:B<=w.heap.size) (hn:l.length<=900000) (hnn:l=[]->v0 = .slice none 0 0) :
  Calls Tryz.prog 152 #[v0,.int .i64 0,.slice (some ⟨vb,0,none⟩) 1 1] w (QnJ w B v0 (v :: l)):=by
 obtain ⟨i0,hi,hz0,hz1,hz2⟩:=info_parts Qde
 have hsz:(Tryz.prog.info? 195).map (·.size)=some 4:=by kernel_rfl
 have H0:=Lib.hid h0
 have HV:=Lib.hid hv
 have hvc:=QkM v
 have HC:=Lib.hid hvc
 clear hvc
 have hvlt:vb<w.heap.size:=(Array.getElem?_eq_some_iff.1 hv).1
 clear hv
 rcases h0.2 with ⟨rfl,hl0⟩ | ⟨g,cap,cur,rfl,hg,hrow,hncap,hcm,hcs,htk⟩
 ·have hl:l=[]:=List.eq_nil_of_length_eq_zero hl0
  subst hl
  clear h0 hl0
  go_enter Tryz.func152,Tryz.ntmps152
  go_wp2_with (at_builtin;refine wpList_append_own_at _ rfl _ _ 242 rfl B 195 i0 _ 4 40 Tryz.underlying242 hi hz0 hz1 hz2 rfl (by decide) (.slice none 0 0) 0 [] rfl (Q7 _ _ _ _) ⟨vb,0,none⟩ 1 1 (Xu v) rfl rfl (HC.out _ _ HV.out) (Qbb v) (QA (by omega)) (by omega) hB ?_;intro v' w1 hown hgr hb1 hb2)
  go_ret
  refine ⟨v',rfl,?_,hgr,?_⟩
  ·exact hown
  ·rcases hb2 with e | e
   ·exact .inl e
   ·exact .inr ⟨_,e,Nat.le_refl _⟩
 ·have hl:l ≠ []:=fun e=>by cases hnn e
  have hpos:0<l.length:=List.length_pos_iff.2 hl
  have HO:=Lib.hid (fun j u hj=>World.ownsRow.cells (g:=g) h0 rfl j u hj)
  have HR:=Lib.hid hrow
  have HT:=Lib.hid htk
  have hglt:g<w.heap.size:=(Array.getElem?_eq_some_iff.1 hrow).1
  have HK:=Lib.hid (VY l)
  have HS:=Lib.hid hcs
  have HM:=Lib.hid hcm
  clear h0 hnn hl hrow htk hcs hcm
  have hb0:((l.length:Int) == 0)=false:=by rw [beq_eq_false_iff_ne];omega
  have hb1:((0:Int) == (l.length:Int))=false:=by rw [beq_eq_false_iff_ne];omega
  have hgv:g ≠ vb:=fun e=>hne (by rw [e];rfl)
  clear hne
  by_cases hroom:l.length+1<=cap
  ·have hov:(callFunc 193 #[.slice (some ⟨vb,0,none⟩) 1 1,.slice (some ⟨g,4,none⟩) l.length (cap-1)]).run Tryz.prog w = .ok (.value (.bool false)) w:=by
    rw [run_callFunc_extern Tryz.func193 (by kernel_rfl) (by kernel_rfl) (by kernel_rfl) (e:=Extern.SlicesOverlaps.overlaps #[242,242] #[4]) (by kernel_rfl),
     Lib.run_overlaps_apart w 242 4 195 Tryz.underlying242 4 (fun w=>by obtain ⟨i1,h1,_,h2,_⟩:=info_parts Qde;simp [sizeOf,typeInfo,h1,h2]) ⟨vb,0,none⟩ ⟨g,4,none⟩ 1 1 l.length (cap-1) (fun e=>hgv e.symm) 195 195 4 (cap * 4)
      (by simp [World.shape?,HV.out,Xu]) (by simp [World.shape?,HR.out,HS.out]) (by omega) (by simp [World.frozen?,HV.out]) (by simp [World.frozen?,HV.out])]
    rfl
   have hb2:¬ (cap<l.length+1):=by omega
   have hb3:¬ ((cap:Int)<(l.length:Int)+1):=by omega
   have hcp:¬ (cap=0):=by omega
   have hcp1:¬ (cap=1):=by omega
   have hw1:IntKind.i64.wrap 1=1:=by decide
   have hbd:(1:Int)<=(l.length:Int)+1:=by omega
   have hbd2:(l.length:Int)+1<=(cap:Int):=by omega
   have hbd0:(0:Int)<=(l.length:Int)+1:=by omega
   have hcap63:cap<=9223372036854775807:=by have:=HM.out;unfold maxLen at this;omega
   go_enter Tryz.func152,Tryz.ntmps152
   go_wp2_with (simp only [hov])
   have hcs:=HS.out
   have hcurl:cur.toList.length=cap * 4:=by rw [Array.length_toList,hcs]
   replace hcs:=Lib.hid hcs
   replace hcurl:=Lib.hid hcurl
   go_region_law ((refine Ug rfl _ _ 242 242 rfl 195 4 Tryz.underlying242 hsz g 4 l.length (cap-1) ⟨g,0,none⟩ (l.length+1) cap (by simp [Act.eval,Act.put]) (by simp [Act.eval,Act.put]) cur.toList 195 (by exact HR.out) (ZH l) (QnK (by omega) HK.out) HO.out (by rw [hcurl.out,HK.out];omega) (QbP l) ?_;intro n2 w2 hrow2 hgr2))
   all_goals
    have hsl:(splice cur.toList 4 (ZH l)).length=cap * 4:=by rw [length_splice _ _ _ (by rw [hcurl.out,HK.out];omega)];exact hcurl.out
    replace hsl:=Lib.hid hsl
    go_wp2_with (have _h:=hrow2;refine Vt rfl _ _ 242 242 rfl 195 4 Tryz.underlying242 hsz g 0 (l.length+1) cap ⟨vb,0,none⟩ 1 1 rfl rfl (splice cur.toList 4 (ZH l)) 195 hrow2.out (Xu v) (QeV (by omega) rfl) (fun j u hj=>hgr2.cell (HC.out _ _ HV.out j u hj) (by rw [Go.WideShapes.add_plain];simp;omega)) (by rw [hsl.out];show 0+4<=_;omega) (Qbb v) ?_;intro n3 w3 hrow3 hgr3)
    go_ret
    have hlen:(Xu v).length+(ZH l).length<=cur.toList.length:=by rw [HK.out,hcurl.out];show 4+_<=_;omega
    refine ⟨_,rfl,⟨?_,.inr ⟨g,cap,_,rfl,hg,hrow3.out,hroom,HM.out,?_,?_⟩⟩,?_,.inl rfl⟩
    ·rw [VY]
    ·have:=length_splice (splice cur.toList 4 (ZH l)) 0 (Xu v) (by rw [hsl.out];show 0+4<=_;omega)
     rw [List.size_toArray,this,hsl.out]
    ·have:=Qh3 cur.toList (Xu v) (ZH l) hlen
     rw [HK.out] at this
     rw [show (v :: l).length * 4=(Xu v).length+l.length * 4 by show (l.length+1) * 4=4+_;omega]
     exact this
    ·refine ⟨hgr3.os.trans hgr2.os,hgr3.tape.trans hgr2.tape,hgr3.output.trans hgr2.output,Nat.le_trans hgr2.size hgr3.size,fun k hk hne=>?_⟩
     have h2:=hgr2.size
     rw [hgr3.block k (by have h4:w.drew.heap.size=w.heap.size:=rfl;omega) hne,hgr2.block k hk hne]
     rfl
  ·have hc3:(cap:Int)<(l.length:Int)+1:=by omega
   go_enter Tryz.func152,Tryz.ntmps152
   go_wp2_with (first
    | (at_builtin;refine QbF rfl _ _ 242 3 rfl 195 i0 _ 4 40 Tryz.underlying242 Tryz.underlying3 hi hz0 hz1 hz2 rfl (by decide) (some ⟨g,0,none⟩) cap (l.length+1) _ rfl rfl (by simp) (by omega) (by omega) (by omega) (by omega) ?_;intro G cur1 w1 hG1 hG2 hcl1 hrow1 hgr1 hsz1;replace hrow1:=Lib.hid hrow1;replace hcl1:=Lib.hid hcl1;replace hsz1:=Lib.hid hsz1)
    | (have _h:=hrow1;refine Vt rfl _ _ 242 242 rfl 195 4 Tryz.underlying242 hsz w.heap.size 0 (l.length+1) G ⟨vb,0,none⟩ 1 1 rfl rfl cur1 195 hrow1.out (Xu v) (QeV (by omega) rfl) (fun j u hj=>hgr1.cell (HC.out _ _ HV.out j u hj) (by simp)) (by have:=hcl1.out;show 0+4<=_;omega) (Qbb v) ?_;intro n2 w2 hrow2 hgr2))
   have hG3:¬ (G=1):=by omega
   have hcp:¬ (cap=0):=by omega
   have hw1:IntKind.i64.wrap 1=1:=by decide
   have hbd:(1:Int)<=(l.length:Int)+1:=by omega
   have hsl:(splice cur1 0 (Xu v)).length=G * 4:=by rw [length_splice _ _ _ (by have:=hcl1.out;show 0+4<=_;omega)];exact hcl1.out
   replace hsl:=Lib.hid hsl
   go_region_law ((refine Ug rfl _ _ 242 242 rfl 195 4 Tryz.underlying242 hsz w.heap.size 4 l.length (G-1) ⟨g,0,none⟩ l.length cap (by simp [Act.eval,Act.put]) (by simp [Act.eval,Act.put]) (splice cur1 0 (Xu v)) 195 hrow2.out (ZH l) (QeV (Nat.le_refl _) HK.out) (fun j u hj=>hgr2.cell (hgr1.cell (HO.out j u hj) (by simp)) (by rw [Go.WideShapes.add_plain];simp;omega)) (by rw [hsl.out,HK.out];omega) (QbP l) ?_;intro n3 w3 hrow3 hgr3))
   all_goals
    go_wp2
    go_ret
    refine ⟨_,rfl,⟨?_,.inr ⟨w.heap.size,G,_,rfl,hB,hrow3.out,hG1,by unfold maxLen;omega,?_,?_⟩⟩,?_,.inr ⟨w.heap.size,rfl,Nat.le_refl _⟩⟩
    ·rw [VY]
    ·have:=length_splice (splice cur1 0 (Xu v)) 4 (ZH l) (by rw [hsl.out,HK.out];omega)
     rw [List.size_toArray,this,hsl.out]
    ·have:=Qjl cur1 (Xu v) (ZH l)
     rw [HK.out] at this
     rw [show (v :: l).length * 4=(Xu v).length+l.length * 4 by show (l.length+1) * 4=4+_;omega]
     exact this
    ·have hsz1':=hsz1.out
     have h2:=hgr2.size
     refine ⟨hgr3.os.trans (hgr2.os.trans hgr1.os),hgr3.tape.trans (hgr2.tape.trans hgr1.tape),hgr3.output.trans (hgr2.output.trans hgr1.output),by have:=hgr3.size;have h4:w2.drew.heap.size=w2.heap.size:=rfl;omega,fun k hk _=>?_⟩
     rw [hgr3.block k (by show k<w2.heap.size;omega) (by simp;omega),show w2.drew.heap[k]? = w2.heap[k]? from rfl,hgr2.block k (by omega) (by simp;omega),hgr1.block k hk (by simp)]
end Go.Proofs.YtcldpmkhpmlcbaaGreatDoor
