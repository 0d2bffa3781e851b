/- part -/
import Derived.Test.YtcldpmkhpmlcbaaGreatDoorJ8
import Derived.Deep.RegionHeld3
import Derived.Test.YtcldpmkhpmlcbaaGreatDoorJ6
import Derived.Test.YtcldpmkhpmlcbaaGreatDoorRefTxF08
import Derived.Test.YtcldpmkhpmlcbaaGreatDoorJ2
import Derived.Test.YtcldpmkhpmlcbaaGreatDoorJ7
import Derived.Test.YtcldpmkhpmlcbaaGreatDoorJ4
import Derived.Maps.RangeWalk
import Derived.Maps.OwnSet
import Derived.Deep.QuietTactic
import Derived.Test.YtcldpmkhpmlcbaaGreatDoorJ5
import Derived.ArgAppend
import Derived.Deep.Onto
set_option linter.unusedVariables false
set_option linter.unusedSimpArgs false
namespace Go.Proofs.YtcldpmkhpmlcbaaGreatDoor
open Go.RowKit Go.Shelf
def QcB (c:Ql) (g:Int) (x:Rd):Bool:=QO c x.key == g
def Qbg (c:Ql) (g:Int) (x:Wr):Bool:=QO c x.key == g
def XL (c:Ql) (t:Tx) (g:Int) (x:Rd):Bool:=Qn c && Qh t && (QO c x.key == g)
def XM (c:Ql) (t:Tx) (g:Int) (x:Wr):Bool:=Qn c && Qh t && (QO c x.key == g)
def Q4 (c:Ql) (t:Tx) (g:Int):List Rd:=t.rds.filter (XL c t g)
def Qr (c:Ql) (t:Tx) (g:Int):List Wr:=t.wrs.filter (XM c t g)
def Qf (c:Ql) (t:Tx):List Int:=if Qh t then Y0 c (QJ t ++ QT t) else []
def QaS (w:World) (l:List Rd) (e:Ending) (w':World):Prop :=
 ∃ (A:Option Addr) (cap:Nat),e = .returned (.slice A l.length cap)/\Xj w' A l/\Below w.heap.size w w'/\QbW w.heap.size A
def QaT (w:World) (l:List Wr) (e:Ending) (w':World):Prop :=
 ∃ (A:Option Addr) (cap:Nat),e = .returned (.slice A l.length cap)/\Yf w' A l/\Below w.heap.size w w'/\QbW w.heap.size A
theorem QcU {α:Type} (l:List α) (d:α) (p:α->Bool) (k:Nat) (h:k<l.length):(l.take (k+1)).filter p=(l.take k).filter p ++ if p (l.getD k d) then [l.getD k d] else []:=by
 rw [List.take_succ_eq_append_getElem h,List.filter_append]
 have:l.getD k d=l[k]:=by simp [List.getD_eq_getElem?_getD,h]
 rw [this]
 cases hp:p l[k] <;> simp [List.filter,hp]
theorem JF {α:Type} (l:List α) (p:α->Bool) (k:Nat):((l.take k).filter p).length<=k :=
 Nat.le_trans (List.length_filter_le _ _) (by rw [List.length_take];omega)
theorem Qd0 {α:Type} (l:List α) (p:α->Bool):decide (0<(l.filter p).length)=l.any p:=by
 induction l with
 | nil=>rfl
 | cons x l ih =>
  cases hp:p x <;> simp [List.filter,hp, <- ih]
theorem UO {c:Ql} {t:Tx} {g:Int} (hc:Qn c=true) (ht:Qh t=true):XL c t g=QcB c g:=by
 funext x;simp [XL,hc,ht,QcB]
theorem Vd {c:Ql} {t:Tx} {g:Int} (hc:Qn c=true) (ht:Qh t=true):XM c t g=Qbg c g:=by
 funext x;simp [XM,hc,ht,Qbg]
theorem Qk6 (c:Ql) (t:Tx) (g:Nat) (hc:Qn c=true) (ht:Qh t=true) :
  decide (0<(Q4 c t g).length+(Qr c t g).length)=Xv c (QJ t ++ QT t) g:=by
 have h1:=Qd0 t.rds (QcB c g)
 have h2:=Qd0 t.wrs (Qbg c g)
 have:Xv c (QJ t ++ QT t) g=(t.rds.any (QcB c g) || t.wrs.any (Qbg c g)):=by
  rw [<- Qh8,UN _ _ _ _ (Nat.le_refl _),List.take_length,List.any_append]
  simp only [QJ,QT,List.any_map]
  rfl
 rw [this, <- h1, <- h2]
 simp only [Q4,Qr,UO hc ht,Vd hc ht]
 rw [Bool.eq_iff_iff]
 simp only [Bool.or_eq_true,decide_eq_true_eq]
 omega
theorem QfB {c:Ql} {t:Tx} (h:(Qn c && Qh t)=false) (g:Int):Q4 c t g=[]/\Qr c t g=[]:=by
 constructor <;> (simp only [Q4,Qr,List.filter_eq_nil_iff];intro x _;simp [XL,XM,h])
structure Zj where
 t:Tx
 gs:List Int
 vs:List (Int × Bool)
structure Qv where
 kind:Int
 dst:Int
 id:Qp
 stamp:Nat
 yes:Bool
deriving DecidableEq
structure Qk where
 q:QD
 s:QR
 wt:List (Qp × Zj)
 dc:List (Qp × (Bool × Nat))
 st:List (ZO × Nat)
 vo:List (ZO × Bool)
 a:List Nat
def YP (g:Int):Qk:=⟨q0 g,Kt,[],[],[],[],[0]⟩
def Qd (t:Tx):Qp:=⟨t.ses,t.seq⟩
def Zb (g:Int) (gs:List Int) (k:Int) (i:Qp) (s:Nat) (y:Bool):List Qv:=(gs.filter fun h=>!decide (h=g)).map fun h=>⟨k,h,i,s,y⟩
def YQ (g:Int) (q:QD) (i:Qp) (w:Zj):List Qv :=
 Zb g w.gs 2 i (Zo q i).own false ++ if QU w.vs g then Zb g w.gs 3 i 0 (Zh w.vs g) else []
def Qx (i:Qp) (p:QD × List (ZO × Nat)) (h:Int):QD × List (ZO × Nat) :=
 (match Qe p.2 (i,h) with | some s=>QZ p.1 i h s | none=>p.1,Zc p.2 (i,h))
def Q1 (gs:List Int) (i:Qp) (p:List (Int × Bool) × List (ZO × Bool)) (h:Int):List (Int × Bool) × List (ZO × Bool) :=
 (match Qe p.2 (i,h) with | some y=>ZS gs p.1 h y | none=>p.1,Zc p.2 (i,h))
def Qe0 (m:Qk) (t:Tx) (gs:List Int):Qk :=
 let q1:=gs.foldl (Qx (Qd t)) (QG m.q (Qd t) gs,m.st)
 let v1:=gs.foldl (Q1 gs (Qd t)) ([],m.vo)
 { m with q:=q1.1,st:=q1.2,vo:=v1.2,wt:=Qs m.wt (Qd t) ⟨t,gs,v1.1⟩ }
def Ye (c:Ql) (g:Int) (m:Qk) (t:Tx):Nat :=
 if (Qf c t).contains g=false then 0 else if (Qe m.dc (Qd t)).isSome then 1 else if (Qe m.wt (Qd t)).isSome then 2 else if Ys m.q (Qd t) (Qf c t) ≠ 0 then 3 else 4
def Qg7:Zj:=⟨⟨0,0,[],[]⟩,[],[]⟩
instance:Inhabited Zj:=⟨Qg7⟩
def ZD (m:Qk) (i:Qp):Zj:=(Qe m.wt i).getD Qg7
def Kc (m:Qk) (i:Qp):Bool × Nat:=(Qe m.dc i).getD (false,0)
def Zl (c:Ql) (g:Int) (m:Qk) (t:Tx):Qk:=if Ye c g m t=4 then Qe0 m t (Qf c t) else m
def Z6 (c:Ql) (g:Int) (m:Qk) (t:Tx):List Qv :=
 match Ye c g m t with
 | 1=>[⟨4, -1,Qd t,(Kc m (Qd t)).2,(Kc m (Qd t)).1⟩]
 | 2=>YQ g m.q (Qd t) (ZD m (Qd t))
 | 4=>YQ g (QG m.q (Qd t) (Qf c t)) (Qd t) ⟨t,Qf c t,[]⟩
 | _=>[]
def Zm (g:Int) (m:Qk) (k:Int) (i:Qp) (h:Int) (s:Nat) (y:Bool):Qk :=
 if (Qe m.dc i).isSome || decide (h=g) then m
 else if (Qe m.wt i).isSome then
  if k=2 then { m with q:=QZ m.q i h s } else { m with wt:=Qs m.wt i { ZD m i with vs:=ZS (ZD m i).gs (ZD m i).vs h y } }
 else if k=2 then (if (Qe m.st (i,h)).isSome then m else { m with st:=Qs m.st (i,h) s })
 else (if (Qe m.vo (i,h)).isSome then m else { m with vo:=Qs m.vo (i,h) y })
def QF (c:Ql) (g:Int) (m:Qk) (w:Zj):List (Int × Bool):=if QU w.vs g then w.vs else ZS w.gs w.vs g (Yj m.s (Q4 c w.t g))
def YW (c:Ql) (g:Int) (m:Qk) (i:Qp) (w:Zj):List Qv:=if QU w.vs g then [] else Zb g w.gs 3 i 0 (Yj m.s (Q4 c w.t g))
def UP (c:Ql) (g:Int) (m:Qk) (i:Qp) (w:Zj):Qk:={ m with wt:=Qs m.wt i { w with vs:=QF c g m w } }
def Zq (m:Qk) (final:Nat) (ws:List Wr):Qk :=
 let n:=m.s.last+1
 let s1:=QH m.s n ws
 let a1:=m.a ++ [final]
 if 8<n/\s1.low<n-8 then { m with s:=Zv s1 (n-8),a:=a1.drop (n-8-s1.low) } else { m with s:=s1,a:=a1 }
def ZY (m:Qk) (i:Qp) (yes:Bool) (final:Nat):Qk:={ m with q:=YV m.q,wt:=Zc m.wt i,dc:=Qs m.dc i (yes,final) }
def ZZ (c:Ql) (g:Int) (m:Qk):Bool × Qk × List Qv :=
 match Z2 m.q with
 | none=>(false,m,[])
 | some (i,final) =>
  let w:=ZD m i
  let vs:=QF c g m w
  if Yd w.gs.length vs then
   let yes:=Zk w.gs.length vs
   let m1:=ZY m i yes final
   let ws:=Qr c w.t g
   (true,if yes && !ws.isEmpty then Zq m1 final ws else m1,YW c g m i w ++ [⟨4, -1,i,final,yes⟩])
  else (false,UP c g m i w,YW c g m i w)
def ZU (c:Ql) (g:Int):Nat->Qk->Qk × List Qv
 | 0,m=>(m,[])
 | n+1,m =>
  let r:=ZZ c g m
  if r.1 then ((ZU c g n r.2.1).1,r.2.2 ++ (ZU c g n r.2.1).2) else (r.2.1,r.2.2)
open Go.Maps
def JX (D:DataW Unit) (v:Int × Nat):DataW Unit:=D.put (.int .i64 v.1) (.lit (.int .u64 (v.2:Int)))
def Xm (vs:List (Int × Nat)):DataW Unit:=vs.foldl JX (.map [])
def Ve (vs:List (Int × Nat)) (g:Int):Nat:=((vs.find? fun x=>decide (x.1=g)).map (·.2)).getD 0
theorem Qd1 (vs:List (Int × Nat)) (g:Int) (y:Nat):Xm (vs ++ [(g,y)])=(Xm vs).put (.int .i64 g) (.lit (.int .u64 (y:Int))):=by
 simp [Xm,JX,List.foldl_append]
theorem Jj {vs:List (Int × Nat)} {g:Int}:ZG vs g=true ↔ g ∈ vs.map (·.1):=by
 simp [ZG]
theorem QbX {v:Int × Nat} {vs:List (Int × Nat)} {g:Int} (e:v.1 ≠ g):ZG (v :: vs) g=ZG vs g:=by
 simp [ZG,e]
theorem QfC (g:Int):∀ (vs:List (Int × Nat)) (D:DataW Unit),IsMap D->Maps.has (vs.foldl JX D) (.int .i64 g)=(Maps.has D (.int .i64 g) || ZG vs g)
 | [],D,_=>by simp [ZG]
 | v :: vs,D,hD=>by
  rw [List.foldl_cons,QfC g vs (JX D v) (hD.put _ _)]
  by_cases e:v.1=g
  ·have:Maps.has (JX D v) (.int .i64 g)=true:=by rw [JX,e];exact has_put_same (k:=.int .i64 g) hD trivial _
   rw [this]
   simp [ZG,e]
  ·have:Maps.has (JX D v) (.int .i64 g)=Maps.has D (.int .i64 g):=has_put_other (fun h=>e (by injection h with _ h;exact h.symm)) _
   rw [this,QbX e]
theorem Qk7 (vs:List (Int × Nat)) (g:Int):Maps.has (Xm vs) (.int .i64 g)=ZG vs g:=by
 rw [Xm,QfC g vs _ isMap_empty];simp [Maps.has]
theorem VO {vs:List (Int × Nat)} (hn:(vs.map (·.1)).Nodup) {v:Int × Nat} (hv:v ∈ vs):Ve vs v.1=v.2:=by
 induction vs with
 | nil=>cases hv
 | cons x vs ih =>
  simp only [List.map_cons,List.nodup_cons] at hn
  rcases List.mem_cons.1 hv with rfl | hv
  ·simp [Ve]
  ·have e:x.1 ≠ v.1:=fun e=>hn.1 (e ▸ List.mem_map.2 ⟨v,hv,rfl⟩)
   have:=ih hn.2 hv
   simp only [Ve,List.find?_cons,e,decide_false] at this ⊢
   exact this
theorem Qg8 (g:Int) (z:DataW Unit):∀ (vs:List (Int × Nat)) (D:DataW Unit),IsMap D->(vs.map (·.1)).Nodup->(vs.foldl JX D).atKey (.int .i64 g) z=if ZG vs g then .lit (.int .u64 (Ve vs g:Int)) else D.atKey (.int .i64 g) z
 | [],D,_,_=>by simp [ZG]
 | v :: vs,D,hD,hn=>by
  simp only [List.map_cons,List.nodup_cons] at hn
  rw [List.foldl_cons,Qg8 g z vs (JX D v) (hD.put _ _) hn.2]
  by_cases e:v.1=g
  ·have h1:ZG vs g=false:=by
    cases h:ZG vs g
    ·rfl
    ·exact absurd (e ▸ Jj.1 h) hn.1
   have h2:(JX D v).atKey (.int .i64 g) z = .lit (.int .u64 (v.2:Int)):=by rw [JX,e];exact atKey_put_same (k:=.int .i64 g) hD trivial _ _
   rw [h1,h2]
   simp [ZG,Ve,e]
  ·have h2:(JX D v).atKey (.int .i64 g) z=D.atKey (.int .i64 g) z:=atKey_put_other (fun h=>e (by injection h with _ h;exact h.symm)) _ _
   have e2:Ve (v :: vs) g=Ve vs g:=by simp only [Ve,List.find?_cons,e,decide_false]
   rw [h2,QbX e,e2]
theorem Qg9 {vs:List (Int × Nat)} (hn:(vs.map (·.1)).Nodup) (g:Int) (z:DataW Unit):(Xm vs).atKey (.int .i64 g) z=if ZG vs g then .lit (.int .u64 (Ve vs g:Int)) else z:=by
 rw [Xm,Qg8 g z vs _ isMap_empty hn]
 simp [DataW.atKey]
theorem QiJ {vs:List (Int × Nat)} {g:Int} (h:ZG vs g=false):Ve vs g=0:=by
 have:vs.find? (fun x=>decide (x.1=g))=none:=by
  rw [List.find?_eq_none]
  intro x hx hc
  rw [ZG,List.any_eq_false] at h
  exact h x hx hc
 simp [Ve,this]
theorem Qd2 {vs:List (Int × Nat)} (hn:(vs.map (·.1)).Nodup) (g:Int) (c:Int) (h:(Xm vs).atKey (.int .i64 g) (.lit (.int .u64 0)) = .lit (.int .u64 c)):c=(Ve vs g:Int):=by
 rw [Qg9 hn] at h
 cases hh:ZG vs g
 ·rw [hh,if_neg (by decide)] at h
  injection h with h
  injection h with _ h
  rw [<- h,QiJ hh];rfl
 ·rw [hh,if_pos rfl] at h
  injection h with h
  injection h with _ h
  exact h.symm
theorem Qd3:∀ (vs:List (Int × Nat)) (D:DataW Unit),Tidy D->(vs.map (·.1)).Nodup->(∀ v ∈ vs,Maps.has D (.int .i64 v.1)=false)->Maps.size (vs.foldl JX D)=Maps.size D+vs.length
 | [],D,_,_,_=>by simp
 | v :: vs,D,hD,hn,hh=>by
  simp only [List.map_cons,List.nodup_cons] at hn
  rw [List.foldl_cons,Qd3 vs (JX D v) (hD.put (k:=.int .i64 v.1) trivial _) hn.2 (fun u hu=>by
   have hne:(Lit.int .i64 u.1) ≠ .int .i64 v.1:=fun h=>hn.1 (by injection h with _ h;exact List.mem_map.2 ⟨u,hu,h⟩)
   rw [JX,has_put_other hne]
   exact hh u (List.mem_cons_of_mem _ hu))]
  have h0:=hh v List.mem_cons_self
  have h1:Maps.size (JX D v)=Maps.size D+1:=by rw [JX,size_put hD,h0];rfl
  rw [h1,List.length_cons]
  omega
theorem QjA {vs:List (Int × Nat)} (hn:(vs.map (·.1)).Nodup):Maps.size (Xm vs)=vs.length:=by
 rw [Xm,Qd3 vs _ tidy_empty hn (fun v _=>by simp [Maps.has])]
 simp [Maps.size]
theorem Qou {vs:List (Int × Nat)} (hn:(vs.map (·.1)).Nodup) {x:Int} {c:Int} (h:∀ zd,(Xm vs).atKey (.int .i64 x) zd = .lit (.int .u64 c)):∃ v ∈ vs,v.1=x/\(v.2:Int)=c:=by
 have h1:=h .nil
 rw [Qg9 hn] at h1
 cases hh:ZG vs x
 ·rw [hh,if_neg (by decide)] at h1
  cases h1
 ·obtain ⟨v,hv,rfl⟩:=List.mem_map.1 (Jj.1 hh)
  rw [hh,if_pos rfl] at h1
  injection h1 with h1
  injection h1 with _ h1
  exact ⟨v,hv,rfl,by rw [<- VO hn hv];exact h1⟩
structure VP (vs:List (Int × Nat)) (own:Nat) (left:Lit->Bool) (s:Nat):Prop where
 lo:own<=s
 hi:s<=JC vs own
 gone:∀ v ∈ vs,left (.int .i64 v.1)=false->v.2<=s
theorem VP.start (vs:List (Int × Nat)) (own:Nat):VP vs own (Maps.has (Xm vs)) own:=⟨Nat.le_refl _,QaN,fun v hv h=>by
 rw [Qk7,Jj.2 (List.mem_map.2 ⟨v,hv,rfl⟩)] at h
 cases h⟩
theorem QmF {vs:List (Int × Nat)} {v:Int × Nat} (hv:v ∈ vs):∀ own,v.2<=JC vs own:=by
 induction vs with
 | nil=>cases hv
 | cons x vs ih =>
  intro own
  rcases List.mem_cons.1 hv with rfl | hv
  ·exact Nat.le_trans (Nat.le_max_right own v.2) QaN
  ·exact ih hv _
theorem VP.step {vs:List (Int × Nat)} (hn:(vs.map (·.1)).Nodup) {own s:Nat} {left:Lit->Bool} (h:VP vs own left s) {x:Int} {c:Nat} (hc:∀ zd,(Xm vs).atKey (.int .i64 x) zd = .lit (.int .u64 (c:Int))):VP vs own (fun z=>left z && !z.sameKey (.int .i64 x)) (max s c):=by
 obtain ⟨u,hu,hu1,hu2⟩:=Qou hn hc
 have hu3:u.2=c:=by omega
 refine ⟨Nat.le_trans h.lo (Nat.le_max_left _ _),Nat.max_le.2 ⟨h.hi,by rw [<- hu3];exact QmF hu _⟩,fun v hv hl=>?_⟩
 by_cases e:v.1=x
 ·have h1:=VO hn hv
  have h2:=VO hn hu
  rw [e, <- hu1,h2] at h1
  omega
 ·refine Nat.le_trans (h.gone v hv ?_) (Nat.le_max_left _ _)
  have:(Lit.int .i64 v.1).sameKey (.int .i64 x)=false:=sameKey_ne (fun h=>e (by injection h))
  simpa [this] using hl
theorem VP.end {vs:List (Int × Nat)} {own s:Nat} {left:Lit->Bool} (h:VP vs own left s) (hl:∀ kl,left kl=false):s=JC vs own :=
 Nat.le_antisymm h.hi (Qa4 h.lo fun v hv=>h.gone v hv (hl _))
def JY (w:World) (b:Nat) (vs:List (Int × Nat)):Prop:=w.ownsMap Tryz.prog 3 (plainElem (H:=Unit) Tryz.prog 39) b vs.length (Xm vs)
theorem QbY:Keyed Tryz.prog 3:=int_keyed Tryz.underlying3
structure Z4 (w:World) (B p mb:Nat) (gv:Value) (o:Qz):Prop where
 blk:w.heap[p]? = some (.cells #[.int .i64 o.id.ses,.int .i64 o.id.seq,gv,.int .u64 (o.own:Int),.map (some mb),.bool o.final] 200 (0,0))
 gr:w.ownsRow B 3 1 gv o.gs.length (o.gs.map (Value.int .i64))
 kn:JY w mb o.known
theorem Z4.cs {w:World} {B p mb:Nat} {gv:Value} {o:Qz} (h:Z4 w B p mb gv o) :
  w.cell? ⟨p,0,none⟩=some (.int .i64 o.id.ses)/\w.cell? ⟨p,1,none⟩=some (.int .i64 o.id.seq)/\w.cell? ⟨p,2,none⟩=some gv/\w.cell? ⟨p,3,none⟩=some (.int .u64 (o.own:Int))/\w.cell? ⟨p,4,none⟩=some (.map (some mb))/\w.cell? ⟨p,5,none⟩=some (.bool o.final):=by
 refine ⟨?_,?_,?_,?_,?_,?_⟩ <;> (rw [cell_of_row w p _ _ _ _ h.blk];rfl)
theorem Z4.fz {w:World} {B p mb:Nat} {gv:Value} {o:Qz} (h:Z4 w B p mb gv o) (j:Nat):w.frozen? ⟨p,j,none⟩=false:=frozen_of_row w p j _ _ h.blk
theorem Z4.out {w w':World} {B p mb:Nat} {gv:Value} {o:Qz} {O:Nat->Prop} (h:Z4 w B p mb gv o) (ho:Qg O w w') (hp:¬ O p) (hm:¬ O mb) (hg:∀ g,gv.ownBlock=some g->¬ O g):Z4 w' B p mb gv o :=
 ⟨ho.obj h.blk hp,ho.row h.gr hg,ho.map h.kn hm⟩
theorem Z4.later {w w':World} {B p mb:Nat} {gv:Value} {o:Qz} (h:Z4 w B p mb gv o) (hb:Below w.heap.size w w'):Z4 w' B p mb gv o :=
 h.out (O:=fun _=>False) (Qg.of_below hb) (fun e=>e) (fun e=>e) (fun _ _ e=>e)
def QC (w:World) (B:Nat) (e:TypeId) (v:Value) (xs:List Value):Prop :=
 (v = .slice none 0 0/\xs=[]) \/ ∃ g off cap cur,v = .slice (some ⟨g,off,none⟩) xs.length cap/\B<=g/\w.heap[g]? = some (.cells cur e (0,0))/\xs.length<=cap/\cap<=maxLen/\off+cap<=cur.size/\(cur.toList.drop off).take xs.length=xs
section
variable {w w':World} {B:Nat} {e:TypeId} {v:Value} {xs:List Value}
theorem QC.of_own {n:Nat} (h:w.ownsRow B e 1 v n xs):QC w B e v xs:=by
 have hl:xs.length=n:=by simpa using h.1
 rcases h.2 with ⟨rfl,rfl⟩ | ⟨g,cap,cur,rfl,hg,hh,h1,h2,h3,h4⟩
 ·exact .inl ⟨rfl,List.eq_nil_of_length_eq_zero hl⟩
 ·refine .inr ⟨g,0,cap,cur,by rw [hl],hg,hh,by omega,h2,by omega,?_⟩
  rw [hl];simpa using h4
theorem QC.nil (w:World) (B:Nat) (e:TypeId):QC w B e (.slice none 0 0) []:=.inl ⟨rfl,rfl⟩
theorem QC.lt (h:QC w B e v xs):∀ g,v.ownBlock=some g->B<=g/\g<w.heap.size:=by
 rintro g hg
 rcases h with ⟨rfl,_⟩ | ⟨g',off,cap,cur,rfl,h1,h2,_⟩
 ·cases hg
 ·injection hg with hg
  subst hg
  exact ⟨h1,(Array.getElem?_eq_some_iff.1 h2).1⟩
theorem QC.out {O:Nat->Prop} (h:QC w B e v xs) (ho:Qg O w w') (hg:∀ g,v.ownBlock=some g->¬ O g):QC w' B e v xs:=by
 rcases h with h | ⟨g,off,cap,cur,rfl,h1,h2,r⟩
 ·exact .inl h
 ·exact .inr ⟨g,off,cap,cur,rfl,h1,ho.obj h2 (hg g rfl),r⟩
theorem QC.later (h:QC w B e v xs) (hb:Below w.heap.size w w'):QC w' B e v xs:=h.out (O:=fun _=>False) (Qg.of_below hb) (fun _ _ e=>e)
theorem QC.low {B':Nat} (h:QC w B e v xs) (hb:B'<=B):QC w B' e v xs:=h.imp id fun ⟨g,off,cap,cur,h1,h2,r⟩=>⟨g,off,cap,cur,h1,Nat.le_trans hb h2,r⟩
theorem QC.ne {p:Nat} {cs:Array Value} {t:TypeId} {f:Nat × Nat} (h:QC w B e v xs) (hp:w.heap[p]? = some (.cells cs t f)) (hne:e ≠ t) {g:Nat} (hg:v.ownBlock=some g):g ≠ p:=by
 rcases h with ⟨rfl,_⟩ | ⟨g',off,cap,cur,rfl,h1,h2,_⟩
 ·cases hg
 ·injection hg with hg
  subst hg
  intro e2
  subst e2
  rw [h2] at hp
  injection hp with hp
  injection hp with _ hp
  exact hne hp
theorem QC.at_ (h:QC w B e v xs):∃ (A:Option Addr) (cap:Nat),v = .slice A xs.length cap/\xs.length<=cap/\(∀ i u,xs[i]? = some u->∃ g off,A=some ⟨g,off,none⟩/\w.cell? ⟨g,off+i,none⟩=some u):=by
 rcases h with ⟨rfl,rfl⟩ | ⟨g,off,cap,cur,rfl,h1,h2,h3,h4,h5,h6⟩
 ·exact ⟨none,0,rfl,Nat.le_refl _,fun i u hu=>by simp at hu⟩
 ·refine ⟨some ⟨g,off,none⟩,cap,rfl,h3,fun i u hu=>⟨g,off,rfl,?_⟩⟩
  have hi:i<xs.length:=(List.getElem?_eq_some_iff.1 hu).1
  rw [<- h6,List.getElem?_take_of_lt hi,List.getElem?_drop] at hu
  simp only [World.cell?,h2,Option.isSome_none,Bool.false_eq_true,if_false]
  rw [<- Array.getElem?_toList,hu]
theorem QC.frozen (h:QC w B e v xs):∀ g j,v.ownBlock=some g->w.frozen? ⟨g,j,none⟩=false:=by
 intro g j hg
 rcases h with ⟨rfl,_⟩ | ⟨g',off,cap,cur,rfl,h1,h2,_⟩
 ·cases hg
 ·injection hg with hg
  subst hg
  exact frozen_of_row w g' j _ _ h2
theorem QC.cut (h:QC w B e v xs) {A:Option Addr} {n cap k:Nat} (hv:v = .slice A n cap) (hk:k<=xs.length) :
  QC w B e (.slice (if cap=k then A else A.map (·.add (k * 1))) (n-k) (cap-k)) (xs.drop k):=by
 rcases h with ⟨rfl,rfl⟩ | ⟨g,off,cap',cur,rfl,h1,h2,h3,h4,h5,h6⟩
 ·have:k=0:=by simpa using hk
  subst this
  injection hv with e1 e2 e3
  subst e1 e2 e3
  exact .inl ⟨rfl,rfl⟩
 ·injection hv with e1 e2 e3
  subst e1 e2 e3
  have hd:((cur.toList.drop (off+k)).take (xs.length-k))=xs.drop k:=by
   have h7:=congrArg (List.drop k) h6
   rw [List.drop_take,List.drop_drop] at h7
   exact h7
  by_cases hc:cap'=k
  ·have e0:xs.length=k:=by omega
   rw [if_pos hc]
   have:xs.drop k=[]:=by rw [<- e0];simp
   rw [this]
   exact .inr ⟨g,off,cap'-k,cur,by simp [e0],h1,h2,by simp,by omega,by omega,by simp⟩
  ·rw [if_neg hc]
   refine .inr ⟨g,off+k,cap'-k,cur,?_,h1,h2,?_,by omega,by omega,?_⟩
   ·simp [Addr.add_lit]
   ·simp;omega
   ·simpa using hd
end
section
variable {P:Program}
theorem QbG (w:World) (t ty e:TypeId) (i:TypeInfo) (ht:P.underlying t=some (.slice e)) (hi:P.info? e=some i)
  (g off sLen sCap:Nat) (cur:Array Value) (hg:w.heap[g]? = some (.cells cur e (0,0)))
  (a:Addr) (m c:Nat) (news:List Value) (hl:news.length=m * i.size) (hnews:∀ j u,news[j]? = some u->w.cell? (a.add j)=some u) (h1:∀ u ∈ news,u.oneCell'=true)
  (hroom:sLen+m<=sCap) (hfit:off+sLen * i.size+news.length<=cur.size) :
  (Builtin.append_ #[t,t] ty #[.slice (some ⟨g,off,none⟩) sLen sCap,.slice (some a) m c]).run P w =
   .ok (.slice (some ⟨g,off,none⟩) (sLen+m) sCap) (w.setRow g (cur.toList.take (off+sLen * i.size) ++ news ++ cur.toList.drop (off+sLen * i.size+news.length)).toArray):=by
 have hf:=run_firstCells_some (P:=P) w i.size m a m c news hl hnews
 have hst:=run_storeCells_at P g (off+sLen * i.size) e news 0 cur w hg (by simpa using hfit) h1
 simp only [Nat.add_zero] at hst
 simp [Builtin.append_,run_underlying ht,sizeOf,typeInfo,hi,Builtin.lenOf,hroom,hf,Addr.add_lit,hst]
theorem Qk8 {w w':World} (h:w.grownBy w' none) (r:Option Nat):w.grownBy w' r:=⟨h.os,h.tape,h.output,h.size,fun k hk _=>h.block k hk (by simp)⟩
theorem Qd4 {w:World} {B:Nat} {e:TypeId} {v:Value} {xs:List Value} (t ty:TypeId) (i:TypeInfo) (z:Value) (bytes:Nat) (ht:P.underlying t=some (.slice e)) (hi:P.info? e=some i) (hz:i.zero=some z)
  (hsize:i.size=1) (hby:i.bytes=bytes) (hzs:z.cells.size=1) (h:QC w B e v xs) (a:Addr) (c:Nat) (u:Value) (hnews:∀ j x,[u][j]? = some x->w.cell? (a.add j)=some x) (h1:∀ x ∈ [u],x.oneCell'=true)
  (h63:xs.length+1<=maxLen) (hbytes:(xs.length+1) * bytes<=140737488355328) (hB:B<=w.heap.size) :
  ∃ v' w',(Builtin.append_ #[t,t] ty #[v,.slice (some a) 1 c]).run P w = .ok v' w'/\QC w' B e v' (xs ++ [u])/\w.grownBy w' v.ownBlock/\(v'.ownBlock=v.ownBlock \/ ∀ g,v'.ownBlock=some g->w.heap.size<=g):=by
 rcases h with ⟨rfl,rfl⟩ | ⟨g,off,cap,cur,rfl,hg,hh,h2,h3,h4,h5⟩
 ·obtain ⟨v',w',hr,ho,hgr,_,h6⟩:=run_append_own_at (P:=P) w B t ty e i z 1 bytes ht hi hz hsize hby hzs (by decide) (.slice none 0 0) 0 [] (Q7 w B 1 e) a 1 c [u] rfl hnews h1 h63 hbytes hB
  refine ⟨v',w',hr,QC.of_own ho,hgr,?_⟩
  rcases h6 with h6 | h6
  ·exact .inl h6
  ·exact .inr fun g hg=>by rw [h6] at hg;cases hg;exact Nat.le_refl _
 ·by_cases hroom:xs.length+1<=cap
  ·have hr:=QbG (P:=P) w t ty e i ht hi g off xs.length cap cur hh a 1 c [u] (by rw [hsize];rfl) hnews h1 hroom (by rw [hsize];simp;omega)
   refine ⟨_,_,hr,.inr ⟨g,off,cap,_,by rw [List.length_append];rfl,hg,setRow_heap w g cur _ e _ hh,by simpa using hroom,h3,?_,?_⟩,⟨rfl,rfl,rfl,by simp [World.setRow],fun k _ hk=>setRow_other w g k _ (fun e=>hk (by simp [Value.ownBlock,e]))⟩,.inl rfl⟩
   ·simp [hsize];omega
   ·rw [hsize,Nat.mul_one,List.toList_toArray,List.append_assoc,List.drop_append_of_le_length (by simp;omega),List.drop_take,Nat.add_sub_cancel_left,h5]
    rw [List.length_append, <- List.append_assoc,List.take_append_of_le_length (by simp)]
    exact List.take_of_length_le (by simp)
  ·have hlo:xs.length=xs.length * 1:=by omega
   obtain ⟨v',w',hr,ho,hgr⟩:=run_append_arg_grows (P:=P) w t ty e i z 1 bytes ht hi hz hsize hby hzs (by decide) ⟨g,off,none⟩ xs.length cap xs hlo (fun j x hx=>by
    have hj:j<xs.length:=(List.getElem?_eq_some_iff.1 hx).1
    rw [<- h5,List.getElem?_take_of_lt hj,List.getElem?_drop] at hx
    rw [Go.WideShapes.add_plain]
    simp only [World.cell?,hh,Option.isSome_none,Bool.false_eq_true,if_false]
    rw [<- Array.getElem?_toList,hx]) a 1 c [u] rfl hnews (by omega) h63 hbytes
   exact ⟨v',w',hr,QC.of_own (World.ownsRow.mono ho hB),Qk8 hgr _,.inr fun g' hg'=>(ho.lt g' hg').1⟩
theorem K0 {w:World} {B:Nat} {e:TypeId} {v:Value} {xs:List Value} (h:QC w B e v xs):∃ A c,v = .slice A xs.length c:=by
 obtain ⟨A,c,h,_⟩:=h.at_
 exact ⟨A,c,h⟩
theorem Y8 {w:World} {ops:Array Oper} {rest:List Oper} {o:Oper} {a:Act} {Q:Exit->Act->World->Prop} (hgd:o.guard=none) (s x:Operand) (t:TypeId)
  (ho:o.op = .call { callee:=.builtin .append,args:=#[s,x],argTypes:=#[t,t] })
  (B:Nat) (e:TypeId) (i:TypeInfo) (z:Value) (bytes:Nat) (ht:P.underlying t=some (.slice e)) (hi:P.info? e=some i) (hz:i.zero=some z)
  (hsize:i.size=1) (hby:i.bytes=bytes) (hzs:z.cells.size=1) (v:Value) (xs:List Value) (hs:a.eval s=v) (h:QC w B e v xs)
  (ad:Addr) (c:Nat) (u:Value) (hx:a.eval x = .slice (some ad) 1 c) (hnews:∀ j x,[u][j]? = some x->w.cell? (ad.add j)=some x) (h1:∀ x ∈ [u],x.oneCell'=true)
  (h63:xs.length+1<=maxLen) (hbytes:(xs.length+1) * bytes<=140737488355328) (hB:B<=w.heap.size)
  (hK:∀ v' w',QC w' B e v' (xs ++ [u])->w.grownBy w' v.ownBlock->(v'.ownBlock=v.ownBlock \/ ∀ g,v'.ownBlock=some g->w.heap.size<=g)->wpList P ops Q rest (a.put o.dst v') w'):wpList P ops Q (o :: rest) a w:=by
 obtain ⟨v',w',hr,h2,h3,h5⟩:=Qd4 (P:=P) t o.type i z bytes ht hi hz hsize hby hzs h ad c u hnews h1 h63 hbytes hB
 refine wpList_plain hgd fun K hK2=>?_
 unfold Oper.wp
 simp [execOp,ho,resolve,invoke,builtin,hs,hx,hr,Result.andThen]
 exact hK2 _ _ (hK v' w' h2 h3 h5)
end
structure QK where
 p:Nat
 mb:Nat
 gv:Value
 o:Qz
instance:Inhabited QK:=⟨⟨0,0,.slice none 0 0,XY⟩⟩
def QK.ptr (e:QK):Value:=.pointer (some ⟨e.p,0,none⟩)
structure ZE (w:World) (B p:Nat) (x:QD) (v:Value) (es:List QK) (O:Nat->Prop):Prop where
 blk:w.heap[p]? = some (.cells #[.int .i64 x.g,.int .u64 (x.clock:Int),v] 166 (0,0))
 row:QC w B 191 v (es.map QK.ptr)
 eq:es.map QK.o=x.l
 one:∀ e ∈ es,Z4 w B e.p e.mb e.gv e.o
 np:(es.map QK.p).Nodup
 nm:(es.map QK.mb).Nodup
 hp:O p
 mv:∀ g,v.ownBlock=some g->O g
 me:∀ e ∈ es,O e.p/\O e.mb/\∀ g,e.gv.ownBlock=some g->O g
 lt:∀ k,O k->B<=k/\k<w.heap.size
def JZ (w:World) (B p:Nat) (x:QD) (O:Nat->Prop):Prop:=∃ v es,ZE w B p x v es O
section
variable {w w':World} {B p:Nat} {x:QD} {v:Value} {es:List QK} {O O':Nat->Prop}
theorem ZE.cs (h:ZE w B p x v es O):w.cell? ⟨p,0,none⟩=some (.int .i64 x.g)/\w.cell? ⟨p,1,none⟩=some (.int .u64 (x.clock:Int))/\w.cell? ⟨p,2,none⟩=some v:=by
 refine ⟨?_,?_,?_⟩ <;> (rw [cell_of_row w p _ _ _ _ h.blk];rfl)
theorem ZE.fz (h:ZE w B p x v es O) (j:Nat):w.frozen? ⟨p,j,none⟩=false:=frozen_of_row w p j _ _ h.blk
theorem ZE.out (h:ZE w B p x v es O) (ho:Qg O' w w') (hd:∀ k,O k->¬ O' k):ZE w' B p x v es O :=
 { h with blk:=ho.obj h.blk (hd _ h.hp),row:=h.row.out ho (fun g hg=>hd g (h.mv g hg)),one:=fun e he=>(h.one e he).out ho (hd _ (h.me e he).1) (hd _ (h.me e he).2.1) (fun g hg=>hd g ((h.me e he).2.2 g hg)),lt:=fun k hk=>⟨(h.lt k hk).1,Nat.lt_of_lt_of_le (h.lt k hk).2 ho.size⟩ }
theorem ZE.later (h:ZE w B p x v es O) (hb:Below w.heap.size w w'):ZE w' B p x v es O:=h.out (O':=fun _=>False) (Qg.of_below hb) (fun _ _ e=>e)
theorem ZE.mono (h:ZE w B p x v es O) (hs:∀ k,O k->O' k) (hl:∀ k,O' k->B<=k/\k<w.heap.size):ZE w B p x v es O' :=
 { h with hp:=hs _ h.hp,mv:=fun g hg=>hs g (h.mv g hg),me:=fun e he=>⟨hs _ (h.me e he).1,hs _ (h.me e he).2.1,fun g hg=>hs g ((h.me e he).2.2 g hg)⟩,lt:=hl }
theorem ZE.hB (h:ZE w B p x v es O):B<=w.heap.size:=Nat.le_of_lt (Nat.lt_of_le_of_lt (h.lt p h.hp).1 (h.lt p h.hp).2)
theorem ZE.widen (h:ZE w' B p x v es O) (hl:∀ k,O k->k<w.heap.size) (hB:B<=w.heap.size):ZE w' B p x v es (ext O w w') :=
 h.mono (fun k hk=>.inl hk) (fun k hk=>Or.elim hk (h.lt k) (fun e=>⟨by omega,e.2⟩))
theorem JZ.out (h:JZ w B p x O) (ho:Qg O' w w') (hd:∀ k,O k->¬ O' k):JZ w' B p x O:=by
 obtain ⟨v,es,h⟩:=h
 exact ⟨v,es,h.out ho hd⟩
theorem JZ.later (h:JZ w B p x O) (hb:Below w.heap.size w w'):JZ w' B p x O:=h.out (O':=fun _=>False) (Qg.of_below hb) (fun _ _ e=>e)
theorem JZ.hB (h:JZ w B p x O):B<=w.heap.size:=by
 obtain ⟨v,es,h⟩:=h
 exact h.hB
theorem JZ.stay (h:JZ w B p x O) (hb:Below w.heap.size w w'):JZ w' B p x (ext O w w'):=by
 obtain ⟨v,es,h⟩:=h
 exact ⟨v,es,(h.later hb).widen (fun k hk=>(h.lt k hk).2) h.hB⟩
theorem ZE.at_ (h:ZE w B p x v es O):∃ (A:Option Addr) (cap:Nat),v = .slice A es.length cap/\es.length<=cap/\(∀ i,i<es.length->∃ g off,A=some ⟨g,off,none⟩/\w.cell? ⟨g,off+i,none⟩=some (es.getD i default).ptr):=by
 obtain ⟨A,cap,hv,hc,hr⟩:=h.row.at_
 rw [List.length_map] at hv hc
 refine ⟨A,cap,hv,hc,fun i hi=>hr i _ ?_⟩
 rw [List.getElem?_map,List.getElem?_eq_getElem hi,List.getD_eq_getElem?_getD,List.getElem?_eq_getElem hi]
 rfl
theorem Kd {es:List QK} {i:Nat} (hi:i<es.length):es.getD i default ∈ es:=by
 rw [List.getD_eq_getElem?_getD,List.getElem?_eq_getElem hi]
 exact List.getElem_mem hi
theorem ZE.at_o (h:ZE w B p x v es O) {i:Nat} (hi:i<es.length):(es.getD i default).o=x.l.getD i XY:=by
 rw [<- h.eq,List.getD_eq_getElem?_getD,List.getD_eq_getElem?_getD,List.getElem?_map,List.getElem?_eq_getElem hi]
 rfl
theorem ZE.len (h:ZE w B p x v es O):es.length=x.l.length:=by rw [<- h.eq,List.length_map]
theorem UQ {w:World} {a b:Nat} {o o':Obj} (h:w.heap[a]? = some o) (h':w.heap[b]? = some o') (hne:o ≠ o'):a ≠ b:=fun e=>by
 subst e
 rw [h] at h'
 injection h' with h'
 exact hne h'
theorem VD {a b:Array Value} {s t:TypeId} {f g:Nat × Nat} (h:s ≠ t):(Obj.cells a s f) ≠ Obj.cells b t g:=fun e=>by
 injection e with _ e
 exact h e
theorem UR {w:World} {B n k g:Nat} {e t:TypeId} {v:Value} {xs:List Value} {cs:Array Value} {f:Nat × Nat} {p:Nat} (h:w.ownsRow B e k v n xs) (hp:w.heap[p]? = some (.cells cs t f)) (hne:e ≠ t) (hg:v.ownBlock=some g):g ≠ p:=by
 rcases h.2 with ⟨rfl,_⟩ | ⟨g',cap,cur,rfl,_,hh,_⟩
 ·cases hg
 ·injection hg with hg
  subst hg
  exact UQ hh hp (VD hne)
theorem Jt {w:World} {b p:Nat} {vs:List (Int × Nat)} {cs:Array Value} {t:TypeId} {f:Nat × Nat} (h:JY w b vs) (hp:w.heap[p]? = some (.cells cs t f)):b ≠ p:=by
 obtain ⟨es,clock,hb,_⟩:=h
 exact UQ hb hp (fun e=>by cases e)
theorem ZE.setB (h:ZE w B p x v es O) (j:Nat) (u:Value) {x':QD} {v':Value} (hc:(#[.int .i64 x.g,.int .u64 (x.clock:Int),v]:Array Value).setIfInBounds j u=#[.int .i64 x'.g,.int .u64 (x'.clock:Int),v'])
  (hx:x'.l=x.l) (hr:QC w B 191 v' (es.map QK.ptr)) (hv:∀ g,v'.ownBlock=some g->O g):ZE (w.setCell ⟨p,j,none⟩ u) B p x' v' es O:=by
 have ho:=QQ w p j u
 have hb:=ZJ (j:=j) u h.blk
 rw [hc] at hb
 exact { blk:=hb,row:=hr.out ho (fun g hg e=>hr.ne h.blk (by decide) hg e),eq:=by rw [hx];exact h.eq,one:=fun e he=>(h.one e he).out ho (fun e2=>UQ (h.one e he).blk h.blk (VD (by decide)) e2) (fun e2=>Jt (h.one e he).kn h.blk e2) (fun g hg e2=>UR (h.one e he).gr h.blk (by decide) hg e2),np:=h.np,nm:=h.nm,hp:=h.hp,mv:=hv,me:=h.me,lt:=fun k hk=>⟨(h.lt k hk).1,Nat.lt_of_lt_of_le (h.lt k hk).2 ho.size⟩ }
end
end Go.Proofs.YtcldpmkhpmlcbaaGreatDoor
