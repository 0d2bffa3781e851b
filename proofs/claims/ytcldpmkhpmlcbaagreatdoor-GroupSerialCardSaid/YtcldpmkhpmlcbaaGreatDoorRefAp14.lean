/- part -/
import Derived.Test.YtcldpmkhpmlcbaaGreatDoorJ6
import Derived.Deep.AppendLies
set_option linter.unusedVariables false
set_option linter.unusedSimpArgs false
namespace Go.Proofs.YtcldpmkhpmlcbaaGreatDoor
open Go.RowKit Go.Maps Go.Shelf Go.Sort
def JW (n:Nat) (L:List It) (x:Wr):List It:=Qay L ⟨x.key,x.val,n⟩
def XZ (n:Nat) (L:List It) (l:List Wr):List It:=l.foldl (JW n) L
theorem QdV (n:Nat) (L:List It) (l:List Wr) (x:Wr):XZ n L (l ++ [x])=JW n (XZ n L l) x:=by simp [XZ,List.foldl_append]
theorem Qdi (L:List It) (x:It):(Qay L x).length=L.length+1:=by
 rw [Qay,List.length_append,List.length_cons]
 have e:=congrArg List.length (List.takeWhile_append_dropWhile (p:=fun y:It=>Qy y.key x.key) (l:=L))
 rw [List.length_append] at e
 omega
theorem QbT (n:Nat):∀ (l:List Wr) (L:List It),(XZ n L l).length=L.length+l.length
 | [],_=>rfl
 | x :: l,L=>by
  have:=QbT n l (JW n L x)
  rw [show XZ n L (x :: l)=XZ n (JW n L x) l from rfl,this,JW,Qdi,List.length_cons]
  omega
theorem Qh6 {m:KV} (h:Zg m) (n:Nat):∀ l:List Wr,XZ n (Qq m) l=Qq (Zx n m l):=by
 intro l
 induction l generalizing m with
 | nil=>rfl
 | cons x l ih =>
  rw [show XZ n (Qq m) (x :: l)=XZ n (JW n (Qq m) x) l from rfl,JW,QdJ h x.key ⟨n,x.val⟩]
  exact ih (J9 h _ _)
def JA (L:List It) (last n:Nat) (l:List Wr):List It:=if n<=last then L else if Yv l then XZ n L l else L
def Un (last n:Nat) (l:List Wr):Nat:=if n<=last then last else if Yv l then n else last
def VB (last n:Nat) (l:List Wr):Int:=if n<=last then 1 else if Yv l then 0 else 2
theorem Qk1 {L:List It} {k:ByteArray} {j:Nat} {x:It} (h:(L.take j).all (fun y=>Qy y.key k)=true) (he:∀ y,L[j]? = some y->Qy y.key k=false) (hk:x.key=k):Qay L x=L.take j ++ x :: L.drop j:=by
 have e:L=L.take j ++ L.drop j:=(List.take_append_drop j L).symm
 have hall:∀ y ∈ L.take j,(fun y:It=>Qy y.key x.key) y=true:=fun y hy=>by rw [hk];exact List.all_eq_true.1 h y hy
 rw [Qay]
 conv=>lhs;rw [e]
 rw [Ji hall,K8 hall]
 have hd:(L.drop j).takeWhile (fun y=>Qy y.key x.key)=[]/\(L.drop j).dropWhile (fun y=>Qy y.key x.key)=L.drop j:=by
  cases hdj:L.drop j with
  | nil=>exact ⟨rfl,rfl⟩
  | cons y r =>
   have:=he y (by rw [<- List.head?_drop,hdj];rfl)
   simp [hk,this]
 rw [hd.1,hd.2,List.append_nil]
end Go.Proofs.YtcldpmkhpmlcbaaGreatDoor
