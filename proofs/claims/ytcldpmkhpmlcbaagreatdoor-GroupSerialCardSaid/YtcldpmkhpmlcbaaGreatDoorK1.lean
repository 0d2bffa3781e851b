/- part -/
import Derived.Test.YtcldpmkhpmlcbaaGreatDoorJ19
import Derived.Test.YtcldpmkhpmlcbaaGreatDoorJ9
import Derived.Test.YtcldpmkhpmlcbaaGreatDoorJ20
import Derived.Test.YtcldpmkhpmlcbaaGreatDoorSaf17
set_option linter.unusedVariables false
set_option linter.unusedSimpArgs false
namespace Go.Proofs.YtcldpmkhpmlcbaaGreatDoor
structure Gh where
 own:Int->Qp->Option Nat
 vote:Int->Qp->Option Bool
structure Gh.Le (a b:Gh):Prop where
 own:∀ h i s,a.own h i=some s->b.own h i=some s
 vote:∀ h i y,a.vote h i=some y->b.vote h i=some y
theorem Gh.Le.refl (a:Gh):a.Le a:=⟨fun _ _ _ h=>h,fun _ _ _ h=>h⟩
theorem Gh.Le.trans {a b d:Gh} (h:a.Le b) (h':b.Le d):a.Le d:=⟨fun x i s e=>h'.own x i s (h.own x i s e),fun x i y e=>h'.vote x i y (h.vote x i y e)⟩
def Gh.Row (g:Int) (a b:Gh):Prop:=∀ h,h ≠ g->b.own h=a.own h/\b.vote h=a.vote h
theorem Gh.Row.refl (g:Int) (a:Gh):Gh.Row g a a:=fun _ _=>⟨rfl,rfl⟩
theorem Gh.Row.trans {g:Int} {a b d:Gh} (h:Gh.Row g a b) (h':Gh.Row g b d):Gh.Row g a d:=fun x e=>⟨(h' x e).1.trans (h x e).1,(h' x e).2.trans (h x e).2⟩
def Gh.setOwn (a:Gh) (g:Int) (i:Qp) (s:Nat):Gh:={ a with own:=fun h j=>if h=g/\j=i then some s else a.own h j }
def Gh.setVote (a:Gh) (g:Int) (i:Qp) (y:Bool):Gh:={ a with vote:=fun h j=>if h=g/\j=i then some y else a.vote h j }
theorem QfY {a:Gh} {g:Int} {i:Qp} {s:Nat} (h:a.own g i=none):a.Le (a.setOwn g i s):=⟨fun x j u e=>by
 show (if x=g/\j=i then some s else a.own x j)=some u
 split
 ·rename_i q;rw [q.1,q.2,h] at e;cases e
 ·exact e,fun _ _ _ e=>e⟩
theorem Qj5 {a:Gh} {g:Int} {i:Qp} {y:Bool} (h:a.vote g i=none):a.Le (a.setVote g i y):=⟨fun _ _ _ e=>e,fun x j u e=>by
 show (if x=g/\j=i then some y else a.vote x j)=some u
 split
 ·rename_i q;rw [q.1,q.2,h] at e;cases e
 ·exact e⟩
theorem Qj6 {a:Gh} {g:Int} {i:Qp} {s:Nat}:Gh.Row g a (a.setOwn g i s):=fun h e=>⟨by funext j;exact if_neg (fun q=>e q.1),rfl⟩
theorem Qis {a:Gh} {g:Int} {i:Qp} {y:Bool}:Gh.Row g a (a.setVote g i y):=fun h e=>⟨rfl,by funext j;exact if_neg (fun q=>e q.1)⟩
theorem Qit {a:Gh} {g:Int} {i:Qp} {s:Nat}:(a.setOwn g i s).own g i=some s:=if_pos ⟨rfl,rfl⟩
theorem U1 {a:Gh} {g:Int} {i:Qp} {y:Bool}:(a.setVote g i y).vote g i=some y:=if_pos ⟨rfl,rfl⟩
section
variable (c:Ql) (all:List Tx)
def Qcb (G:Gh) (g:Int) (o:Qz):Prop:=(∃ t ∈ all,Qd t=o.id/\o.gs=Qf c t)/\G.own g o.id=some o.own/\∀ x ∈ o.known,G.own x.1 o.id=some x.2
def Vn (G:Gh) (g:Int) (q:QD):Prop:=∀ o ∈ q.l,Qcb c all G g o
def QaH (G:Gh) (i:Qp) (vs:List (Int × Bool)):Prop:=∀ x ∈ vs,G.vote x.1 i=some x.2
def Qcc (G:Gh) (t:Tx) (s:Nat):Prop:=(∀ h ∈ Qf c t,∃ s',G.own h (Qd t)=some s'/\s'<=s)/\∃ h ∈ Qf c t,G.own h (Qd t)=some s
def Qcd (G:Gh) (t:Tx) (y:Bool):Prop:=(y=true->∀ h ∈ Qf c t,G.vote h (Qd t)=some true)/\(y=false->∃ h ∈ Qf c t,G.vote h (Qd t)=some false)
structure JK (G:Gh) (g:Int) (m:Qk):Prop where
 q:Vn c all G g m.q
 w:∀ i v,Qe m.wt i=some v->v.t ∈ all/\QaH G i v.vs
 d:∀ i y s,Qe m.dc i=some (y,s)->∃ t ∈ all,Qd t=i/\g ∈ Qf c t/\Qcc c G t s/\Qcd c G t y/\(G.vote g i).isSome=true
 st:∀ i h s,Qe m.st (i,h)=some s->G.own h i=some s
 vo:∀ i h y,Qe m.vo (i,h)=some y->G.vote h i=some y
 ow:∀ i s,G.own g i=some s->(Qe m.wt i).isSome=true \/ (Qe m.dc i).isSome=true
 vt:∀ i y,G.vote g i=some y->(Qe m.dc i).isSome=true \/ ∃ v,Qe m.wt i=some v/\QU v.vs g=true
def Qpa (G:Gh) (g:Int) (x:Qv):Prop:=x.kind=4 \/ ((∃ t ∈ all,Qd t=x.id/\x.dst ∈ Qf c t/\g ∈ Qf c t)/\x.dst ≠ g/\((x.kind=2/\G.own g x.id=some x.stamp/\x.yes=false) \/ (x.kind=3/\G.vote g x.id=some x.yes/\x.stamp=0)))
def XD (G:Gh) (g:Int) (os:List Qv):Prop:=∀ x ∈ os,Qpa c all G g x
def Y9 (h:Int) (os:List Qv):List Qv:=os.filter fun x=>decide (x.dst=h) && !decide (x.kind=4)
def Vu (G:Gh) (g:Int):Nat:=(all.filter fun t=>(G.vote g (Qd t)).isNone).length
def OB (G:Gh) (u:Nat):Prop:=∀ h i s,G.own h i=some s->1<=s/\s<=u
structure YT (G G':Gh) (g:Int) (m':Qk) (os:List Qv) (k u:Nat):Prop where
 cnt:∀ h,(Y9 h os).length+Vu all G' g<=Vu all G g+k
 ob:OB G' u
 ck:m'.q.clock<=u
 le:G.Le G'
 row:Gh.Row g G G'
 loc:JK c all G' g m'
 told:XD c all G' g os
 tello:∀ i s,G'.own g i=some s->G.own g i=some s \/ ∀ t ∈ all,Qd t=i->∀ h ∈ Qf c t,h ≠ g->∃ x ∈ os,x.kind=2/\x.dst=h/\x.id=i
 tellv:∀ i y,G'.vote g i=some y->G.vote g i=some y \/ ∀ t ∈ all,Qd t=i->∀ h ∈ Qf c t,h ≠ g->∃ x ∈ os,x.kind=3/\x.dst=h/\x.id=i
 dom:∀ i s,G'.own g i=some s->G.own g i=some s \/ ∃ t ∈ all,Qd t=i/\g ∈ Qf c t
end
section
variable {c:Ql} {all:List Tx} {G G' G2:Gh} {g:Int} {m m':Qk} {os os':List Qv}
theorem Qcb.le {o:Qz} (h:Qcb c all G g o) (hl:G.Le G'):Qcb c all G' g o:=⟨h.1,hl.own _ _ _ h.2.1,fun x hx=>hl.own _ _ _ (h.2.2 x hx)⟩
theorem Vn.le {q:QD} (h:Vn c all G g q) (hl:G.Le G'):Vn c all G' g q:=fun o ho=>(h o ho).le hl
theorem QaH.le {i:Qp} {vs:List (Int × Bool)} (h:QaH G i vs) (hl:G.Le G'):QaH G' i vs:=fun x hx=>hl.vote _ _ _ (h x hx)
theorem Qcc.le {t:Tx} {s:Nat} (h:Qcc c G t s) (hl:G.Le G'):Qcc c G' t s:=⟨fun x hx=>by
  obtain ⟨s',e,hs⟩:=h.1 x hx
  exact ⟨s',hl.own _ _ _ e,hs⟩,by
  obtain ⟨x,hx,e⟩:=h.2
  exact ⟨x,hx,hl.own _ _ _ e⟩⟩
theorem Qcd.le {t:Tx} {y:Bool} (h:Qcd c G t y) (hl:G.Le G'):Qcd c G' t y:=⟨fun e x hx=>hl.vote _ _ _ (h.1 e x hx),fun e=>by
  obtain ⟨x,hx,q⟩:=h.2 e
  exact ⟨x,hx,hl.vote _ _ _ q⟩⟩
theorem XD.le (h:XD c all G g os) (hl:G.Le G'):XD c all G' g os:=fun x hx=>by
 rcases h x hx with e | ⟨e1,e2,e3⟩
 ·exact .inl e
 ·refine .inr ⟨e1,e2,?_⟩
  rcases e3 with ⟨a,b,d⟩ | ⟨a,b,d⟩
  ·exact .inl ⟨a,hl.own _ _ _ b,d⟩
  ·exact .inr ⟨a,hl.vote _ _ _ b,d⟩
theorem XD.append (h:XD c all G g os) (h':XD c all G g os'):XD c all G g (os ++ os'):=fun x hx=>(List.mem_append.1 hx).elim (h x) (h' x)
theorem XD.nil:XD c all G g []:=fun _ h=>by cases h
theorem JK.other (h : JK c all G g m) (hl : G.Le G') (h1 : G'.own g = G.own g) (h2 : G'.vote g = G.vote g) : JK c all G' g m :=
  { q := h.q.le hl, w := fun i v e => ⟨(h.w i v e).1, (h.w i v e).2.le hl⟩, d := fun i y s e => by
      obtain ⟨t, ht, e1, e2, e3, e4, e5⟩ := h.d i y s e
      exact ⟨t, ht, e1, e2, e3.le hl, e4.le hl, by rw [h2]; exact e5⟩, st := fun i x s e => hl.own _ _ _ (h.st i x s e), vo := fun i x y e => hl.vote _ _ _ (h.vo i x y e)
    ow := fun i s e => h.ow i s (by rw [<- h1]; exact e), vt := fun i y e => h.vt i y (by rw [<- h2]; exact e) }
theorem QeB {h:Int}:Y9 h (os ++ os')=Y9 h os ++ Y9 h os':=List.filter_append ..
theorem QoI (hl:G.Le G'):Vu all G' g<=Vu all G g:=by
 unfold Vu
 induction all with
 | nil=>exact Nat.le_refl _
 | cons t l ih =>
  rw [List.filter_cons,List.filter_cons]
  cases e:G.vote g (Qd t) with
  | some y=>rw [hl.vote _ _ _ e];simpa using ih
  | none =>
   cases e':G'.vote g (Qd t) with
   | none=>simpa using ih
   | some y=>simp only [Option.isNone_some,Option.isNone_none,if_pos,Bool.false_eq_true,if_false,List.length_cons];omega
theorem QoJ {i:Qp} (hl:G.Le G') (h0:G.vote g i=none) (h1:(G'.vote g i).isSome=true) (ht:∃ t ∈ all,Qd t=i):Vu all G' g+1<=Vu all G g:=by
 obtain ⟨t,ht,rfl⟩:=ht
 unfold Vu
 induction all with
 | nil=>cases ht
 | cons t' l ih =>
  have hle:=QoI (all:=l) (g:=g) hl
  unfold Vu at hle
  rw [List.filter_cons,List.filter_cons]
  by_cases e2:Qd t'=Qd t
  ·rw [e2,h0,Option.isNone_none,if_pos rfl,if_neg (by cases e:G'.vote g (Qd t) with
    | none=>rw [e] at h1;cases h1
    | some y=>simp),List.length_cons]
   omega
  ·have ih2:=ih (by
    rcases List.mem_cons.1 ht with rfl | ht
    ·exact absurd rfl e2
    ·exact ht)
   cases e:G.vote g (Qd t') with
   | some y=>rw [hl.vote _ _ _ e];simpa using ih2
   | none =>
    cases e':G'.vote g (Qd t') with
    | none=>simp only [Option.isNone_none,if_pos,List.length_cons];omega
    | some y=>simp only [Option.isNone_some,Option.isNone_none,if_pos,Bool.false_eq_true,if_false,List.length_cons];omega
theorem YT.refl (h:JK c all G g m) {u:Nat} (hu:OB G u) (hc:m.q.clock<=u):YT c all G G g m [] 0 u:=⟨fun _=>by show 0+_<=_;omega,hu,hc,Gh.Le.refl _,Gh.Row.refl _ _,h,XD.nil,fun _ _ e=>.inl e,fun _ _ e=>.inl e,fun _ _ e=>.inl e⟩
theorem YT.told' (h:JK c all G g m) {u k:Nat} (hu:OB G u) (hc:m.q.clock<=u) (ht:XD c all G g os) (hk:∀ h,(Y9 h os).length<=k):YT c all G G g m os k u:=⟨fun h=>by have:=hk h;omega,hu,hc,Gh.Le.refl _,Gh.Row.refl _ _,h,ht,fun _ _ e=>.inl e,fun _ _ e=>.inl e,fun _ _ e=>.inl e⟩
theorem YT.trans {m2 : Qk} {k k' u : Nat} (h : YT c all G G' g m' os k u) (h' : YT c all G' G2 g m2 os' k' u) : YT c all G G2 g m2 (os ++ os') (k + k') u :=
  { cnt := fun x => by
      have h1 := h.cnt x
      have h2 := h'.cnt x
      rw [QeB, List.length_append]
      omega
    ob := h'.ob
    ck := h'.ck
    le := h.le.trans h'.le, row := h.row.trans h'.row, loc := h'.loc, told := (h.told.le h'.le).append h'.told
    tello := fun i s e => by
      rcases h'.tello i s e with e | e
      · rcases h.tello i s e with e | e
        · exact .inl e
        · refine .inr fun t ht hi x hx hne => ?_
          obtain ⟨y, hy, r⟩ := e t ht hi x hx hne
          exact ⟨y, List.mem_append_left _ hy, r⟩
      · refine .inr fun t ht hi x hx hne => ?_
        obtain ⟨y, hy, r⟩ := e t ht hi x hx hne
        exact ⟨y, List.mem_append_right _ hy, r⟩
    tellv := fun i s e => by
      rcases h'.tellv i s e with e | e
      · rcases h.tellv i s e with e | e
        · exact .inl e
        · refine .inr fun t ht hi x hx hne => ?_
          obtain ⟨y, hy, r⟩ := e t ht hi x hx hne
          exact ⟨y, List.mem_append_left _ hy, r⟩
      · refine .inr fun t ht hi x hx hne => ?_
        obtain ⟨y, hy, r⟩ := e t ht hi x hx hne
        exact ⟨y, List.mem_append_right _ hy, r⟩
    dom := fun i s e => by
      rcases h'.dom i s e with e | e
      · exact h.dom i s e
      · exact .inr e }
theorem QlP {q:QD} (h:Vn c all G g q):Vn c all G g (YV q):=fun o ho=>h o (List.mem_of_mem_drop ho)
theorem QeC {q:QD} (h:Vn c all G g q) {i:Qp} {x:Int} {s:Nat} (hs:G.own x i=some s):Vn c all G g (QZ q i x s):=by
 rw [QZ]
 split
 ·rename_i hk
  have e1:Zn q i=true:=by
   cases e:Zn q i
   ·rw [ZQ,if_pos e] at hk;cases hk
   ·rfl
  obtain ⟨_,hid,hm⟩:=Xt e1
  intro o ho
  rcases List.mem_or_eq_of_mem_set ((Zz _).mem_iff.1 ho) with ho | ho
  ·exact h o ho
  ·subst ho
   obtain ⟨h1,h2,h3⟩:=h _ hm
   refine ⟨h1,h2,fun y hy=>?_⟩
   have hy':y ∈ (Zo q i).known ++ [(x,s)]:=hy
   rcases List.mem_append.1 hy' with hy | hy
   ·exact h3 y hy
   ·rw [List.mem_singleton.1 hy]
    show G.own x (Zo q i).id=some s
    rw [hid];exact hs
 ·exact h
theorem Qj7 {q:QD} (h:Vn c all G g q) {t:Tx} (ht:t ∈ all) (hn:G.own g (Qd t)=none) (hk:Ys q (Qd t) (Qf c t)=0):Vn c all (G.setOwn g (Qd t) (q.clock+1)) g (QG q (Qd t) (Qf c t)):=by
 rw [QG,if_pos hk]
 intro o ho
 rcases List.mem_append.1 ((Zz _).mem_iff.1 ho) with ho | ho
 ·exact (h o ho).le (QfY hn)
 ·rw [List.mem_singleton.1 ho]
  exact ⟨⟨t,ht,rfl,rfl⟩,Qit,fun x hx=>by cases hx⟩
theorem Qne {k:List (Int × Nat)}:∀ {s:Nat},JC k s=s \/ ∃ x ∈ k,JC k s=x.2:=by
 induction k with
 | nil=>intro s;exact .inl rfl
 | cons x k ih =>
  intro s
  have h:=ih (s:=max s x.2)
  have e:JC (x :: k) s=JC k (max s x.2):=rfl
  rw [e]
  rcases h with h | ⟨y,hy,h⟩
  ·rw [h]
   rcases Nat.le_total s x.2 with q | q
   ·exact .inr ⟨x,List.mem_cons_self,Nat.max_eq_right q⟩
   ·exact .inl (Nat.max_eq_left q)
  ·exact .inr ⟨y,List.mem_cons_of_mem _ hy,h⟩
theorem Qod {k:List (Int × Nat)}:∀ {s:Nat} {x:Int × Nat},x ∈ k->x.2<=JC k s:=by
 induction k with
 | nil=>intro s x hx;cases hx
 | cons y k ih =>
  intro s x hx
  have e:JC (y :: k) s=JC k (max s y.2):=rfl
  rw [e]
  rcases List.mem_cons.1 hx with rfl | hx
  ·exact Nat.le_trans (Nat.le_max_right _ _) QaN
  ·exact ih hx
theorem Qiu {q:QD} {o:Qz} (ho:Qaa q o) (hf:o.final=true):∀ h ∈ o.gs,h=q.g \/ ZG o.known h=true:=by
 intro h hh
 by_cases e:h=q.g
 ·exact .inl e
 ·right
  have hlen:o.known.length+1=o.gs.length:=by
   have:=ho.fin
   rw [hf] at this
   exact of_decide_eq_true this.symm
  have hmy:q.g ∈ o.gs:=by
   have:=ho.gs
   simp only [Yy,Bool.and_eq_true] at this
   simpa using this.2
  cases hk:ZG o.known h
  ·exfalso
   have hn:(h :: q.g :: o.known.map (·.1)).Nodup:=by
    rw [List.nodup_cons,List.nodup_cons]
    refine ⟨fun hm=>?_,fun hm=>?_,ho.nd⟩
    ·rcases List.mem_cons.1 hm with e2 | hm
     ·exact e e2
     ·rw [Jj.2 hm] at hk;cases hk
    ·obtain ⟨x,hx,e2⟩:=List.mem_map.1 hm
     exact (ho.kn x hx).1 e2
   have:=XS (m:=o.gs) hn (fun x hx=>by
    rcases List.mem_cons.1 hx with rfl | hx
    ·exact hh
    ·rcases List.mem_cons.1 hx with rfl | hx
     ·exact hmy
     ·obtain ⟨y,hy,rfl⟩:=List.mem_map.1 hx
      simpa using (ho.kn y hy).2.1)
   simp only [List.length_cons,List.length_map] at this
   omega
  ·rfl
theorem Qce {q:QD} {o:Qz} (ho:Qaa q o) (hg:q.g=g) (hl:Qcb c all G g o) (hf:o.final=true) {t:Tx} (hi:Qd t=o.id) (hgs:o.gs=Qf c t):Qcc c G t o.stamp:=by
 have hst:o.stamp=JC o.known o.own:=by rw [Qz.stamp,if_pos hf]
 have hmy:g ∈ o.gs:=by
  have:=ho.gs
  simp only [Yy,Bool.and_eq_true] at this
  rw [<- hg];simpa using this.2
 refine ⟨fun h hh=>?_,?_⟩
 ·rw [<- hgs] at hh
  rw [hi,hst]
  rcases Qiu ho hf h hh with e | e
  ·rw [e,hg]
   exact ⟨o.own,hl.2.1,QaN⟩
  ·obtain ⟨x,hx,e2⟩:=List.mem_map.1 (Jj.1 e)
   subst e2
   exact ⟨x.2,hl.2.2 x hx,Qod hx⟩
 ·rw [hi,hst]
  rcases Qne (k:=o.known) (s:=o.own) with e | ⟨x,hx,e⟩
  ·exact ⟨g,by rw [<- hgs];exact hmy,by rw [e];exact hl.2.1⟩
  ·refine ⟨x.1,?_,by rw [e];exact hl.2.2 x hx⟩
   rw [<- hgs]
   simpa using (ho.kn x hx).2.1
end
section
variable {c:Ql} {all:List Tx} {G G':Gh} {g:Int} {n u:Nat} {m:Qk}
theorem U2 {gs:List Int} {k:Int} {i:Qp} {s:Nat} {y:Bool} {x:Qv}:x ∈ Zb g gs k i s y ↔ ∃ h ∈ gs,h ≠ g/\x=⟨k,h,i,s,y⟩:=by
 unfold Zb
 simp only [List.mem_map,List.mem_filter,Bool.not_eq_true',decide_eq_false_iff_not]
 constructor
 ·rintro ⟨h,⟨h1,h2⟩,rfl⟩;exact ⟨h,h1,h2,rfl⟩
 ·rintro ⟨h,h1,h2,rfl⟩;exact ⟨h,⟨h1,h2⟩,rfl⟩
theorem QlQ {gs:List Int} {k:Int} {i:Qp} {s:Nat} {y:Bool} {h:Int} (hn:h ∉ gs):Y9 h (Zb g gs k i s y)=[]:=by
 unfold Y9
 rw [List.filter_eq_nil_iff]
 intro x hx
 obtain ⟨h',h1,_,rfl⟩:=U2.1 hx
 have:¬ h'=h:=fun e=>hn (e ▸ h1)
 simp [this]
theorem QcI {k:Int} {i:Qp} {s:Nat} {y:Bool} {h:Int}:∀ {gs:List Int},gs.Nodup->(Y9 h (Zb g gs k i s y)).length<=1
 | [],_=>Nat.zero_le _
 | a :: gs,hn=>by
  rw [List.nodup_cons] at hn
  have ih:=QcI (k:=k) (i:=i) (s:=s) (y:=y) (h:=h) hn.2
  by_cases e:a=g
  ·have:Zb g (a :: gs) k i s y=Zb g gs k i s y:=by unfold Zb;rw [List.filter_cons];simp [e]
   rw [this];exact ih
  ·have:Zb g (a :: gs) k i s y=⟨k,a,i,s,y⟩ :: Zb g gs k i s y:=by unfold Zb;rw [List.filter_cons];simp [e]
   rw [this]
   unfold Y9
   rw [List.filter_cons]
   by_cases e2:a=h
   ·subst e2
    have e3:List.filter (fun x:Qv=>decide (x.dst=a) && !decide (x.kind=4)) (Zb g gs k i s y)=[]:=QlQ hn.1
    rw [e3]
    split <;> simp
   ·have:¬ ((decide ((⟨k,a,i,s,y⟩:Qv).dst=h) && !decide ((⟨k,a,i,s,y⟩:Qv).kind=4))=true):=by simp [e2]
    rw [if_neg this]
    exact ih
theorem Qj8 {t:Tx} (ht:t ∈ all) {i:Qp} (hi:Qd t=i) {gs:List Int} (hgs:gs=Qf c t) (hg:g ∈ Qf c t) {s:Nat} (ho:G.own g i=some s):XD c all G g (Zb g gs 2 i s false):=fun x hx=>by
 obtain ⟨h,h1,h2,rfl⟩:=U2.1 hx
 exact .inr ⟨⟨t,ht,hi,by rw [<- hgs];exact h1,hg⟩,h2,.inl ⟨rfl,ho,rfl⟩⟩
theorem QfZ {t:Tx} (ht:t ∈ all) {i:Qp} (hi:Qd t=i) {gs:List Int} (hgs:gs=Qf c t) (hg:g ∈ Qf c t) {y:Bool} (ho:G.vote g i=some y):XD c all G g (Zb g gs 3 i 0 y):=fun x hx=>by
 obtain ⟨h,h1,h2,rfl⟩:=U2.1 hx
 exact .inr ⟨⟨t,ht,hi,by rw [<- hgs];exact h1,hg⟩,h2,.inr ⟨rfl,ho,rfl⟩⟩
theorem U3 {gs:List Int} {vs:List (Int × Bool)} (h:Yh gs vs) (hv:QU vs g=true):(g,Zh vs g) ∈ vs:=by
 obtain ⟨x,hx,e⟩:=List.mem_map.1 (KP.1 hv)
 have:=KD h.keys hx
 subst e
 rw [this];exact hx
theorem QeD {q:QD} {i:Qp} {v:Zj} (hq:Vn c all G g q) (hh:Zn q i=true) (hv:v.t ∈ all) (hi:Qd v.t=i) (hgs:v.gs=Qf c v.t) (hg:g ∈ Qf c v.t) (hvs:QaH G i v.vs) (ht:Yh v.gs v.vs):XD c all G g (YQ g q i v)/\∀ h,(Y9 h (YQ g q i v)).length<=2:=by
 obtain ⟨_,hid,hm⟩:=Xt hh
 have h1:=(hq _ hm).2.1
 rw [hid] at h1
 have hn:v.gs.Nodup:=ht.nodup
 unfold YQ
 constructor
 ·refine (Qj8 hv hi hgs hg h1).append ?_
  split
  ·rename_i e
   exact QfZ hv hi hgs hg (hvs _ (U3 ht e))
  ·exact XD.nil
 ·intro h
  rw [QeB,List.length_append]
  have e1:=QcI (g:=g) (k:=2) (i:=i) (s:=(Zo q i).own) (y:=false) (h:=h) hn
  split
  ·have e2:=QcI (g:=g) (k:=3) (i:=i) (s:=0) (y:=Zh v.vs g) (h:=h) hn
   omega
  ·show _+0<=_;omega
theorem XG {κ V:Type} [DecidableEq κ] {kv:List (κ × V)} {k k':κ} {v:V} (h:Qe (Zc kv k) k'=some v):Qe kv k'=some v:=by
 rw [ZF] at h
 split at h
 ·cases h
 ·exact h
theorem Qc1 {q:QD} (hq:Vn c all G g q) (hu:OB G u) (hc:q.clock<=u) {i:Qp} {x:Int} {s:Nat} (hs:s<=u):(QZ q i x s).clock<=u:=by
 rw [QZ]
 split
 ·rename_i hk
  have e1:Zn q i=true:=by
   cases e:Zn q i
   ·rw [ZQ,if_pos e] at hk;cases hk
   ·rfl
  obtain ⟨_,hid,hm⟩:=Xt e1
  obtain ⟨_,h2,h3⟩:=hq _ hm
  show (if (QP (Zo q i) x s).final=true then max q.clock (QP (Zo q i) x s).stamp else q.clock)<=u
  by_cases hf:(QP (Zo q i) x s).final=true
  ·rw [if_pos hf]
   refine Nat.max_le.2 ⟨hc,?_⟩
   rw [Qz.stamp,if_pos hf]
   refine Qa4 (hu _ _ _ h2).2 fun y hy=>?_
   have hy':y ∈ (Zo q i).known ++ [(x,s)]:=hy
   rcases List.mem_append.1 hy' with hy | hy
   ·exact (hu _ _ _ (h3 y hy)).2
   ·rw [List.mem_singleton.1 hy];exact hs
  ·rw [if_neg hf];exact hc
 ·exact hc
theorem Qbq {i:Qp} (hu:OB G u):∀ (gs:List Int) {q:QD} {st:List (ZO × Nat)},Vn c all G g q->q.clock<=u->(∀ j h s,Qe st (j,h)=some s->G.own h j=some s) ->
  Vn c all G g (gs.foldl (Qx i) (q,st)).1/\(gs.foldl (Qx i) (q,st)).1.clock<=u/\∀ j h s,Qe (gs.foldl (Qx i) (q,st)).2 (j,h)=some s->Qe st (j,h)=some s
 | [],_,_,hq,hc,_=>⟨hq,hc,fun _ _ _ e=>e⟩
 | h :: gs,q,st,hq,hc,hs=>by
  rw [List.foldl_cons]
  have hs2:∀ j h' s,Qe (Zc st (i,h)) (j,h')=some s->G.own h' j=some s:=fun j h' s e=>hs j h' s (XG e)
  cases e:Qe st (i,h) with
  | none =>
   have e2:Qx i (q,st) h=(q,Zc st (i,h)):=by rw [Qx,e]
   rw [e2]
   obtain ⟨r1,r2,r3⟩:=Qbq hu gs hq hc hs2
   exact ⟨r1,r2,fun j h' s e=>XG (r3 j h' s e)⟩
  | some s =>
   have e2:Qx i (q,st) h=(QZ q i h s,Zc st (i,h)):=by rw [Qx,e]
   rw [e2]
   have ho:=hs i h s e
   obtain ⟨r1,r2,r3⟩:=Qbq hu gs (QeC hq ho) (Qc1 (i:=i) (x:=h) hq hu hc (hu _ _ _ ho).2) hs2
   exact ⟨r1,r2,fun j h' s e=>XG (r3 j h' s e)⟩
theorem Qdw {gs:List Int} {i:Qp} {vs:List (Int × Bool)} {h:Int} {y:Bool} (hv:QaH G i vs) (hy:G.vote h i=some y):QaH G i (ZS gs vs h y):=by
 unfold ZS
 split
 ·intro x hx
  rcases List.mem_append.1 hx with hx | hx
  ·exact hv x hx
  ·rw [List.mem_singleton.1 hx];exact hy
 ·exact hv
theorem Qcf {i:Qp} {gs0:List Int}:∀ (gs:List Int) {vs:List (Int × Bool)} {vo:List (ZO × Bool)},QaH G i vs->(∀ j h y,Qe vo (j,h)=some y->G.vote h j=some y) ->
  QaH G i (gs.foldl (Q1 gs0 i) (vs,vo)).1/\∀ j h y,Qe (gs.foldl (Q1 gs0 i) (vs,vo)).2 (j,h)=some y->Qe vo (j,h)=some y
 | [],_,_,hv,_=>⟨hv,fun _ _ _ e=>e⟩
 | h :: gs,vs,vo,hv,hs=>by
  rw [List.foldl_cons]
  have hs2:∀ j h' s,Qe (Zc vo (i,h)) (j,h')=some s->G.vote h' j=some s:=fun j h' s e=>hs j h' s (XG e)
  cases e:Qe vo (i,h) with
  | none =>
   have e2:Q1 gs0 i (vs,vo) h=(vs,Zc vo (i,h)):=by rw [Q1,e]
   rw [e2]
   obtain ⟨r1,r3⟩:=Qcf gs hv hs2
   exact ⟨r1,fun j h' s e=>XG (r3 j h' s e)⟩
  | some y =>
   have e2:Q1 gs0 i (vs,vo) h=(ZS gs0 vs h y,Zc vo (i,h)):=by rw [Q1,e]
   rw [e2]
   obtain ⟨r1,r3⟩:=Qcf (gs0:=gs0) gs (Qdw (gs:=gs0) hv (hs i h y e)) hs2
   exact ⟨r1,fun j h' s e=>XG (r3 j h' s e)⟩
def Jl (m:Qk) (i:Qp):Prop:=(Qe m.wt i).isSome=true \/ (Qe m.dc i).isSome=true
theorem QlR (m:Qk) (t:Tx) (gs:List Int):∃ v,Qe (Qe0 m t gs).wt (Qd t)=some v:=by
 refine ⟨⟨t,gs,(gs.foldl (Q1 gs (Qd t)) ([],m.vo)).1⟩,?_⟩
 show Qe (Qs m.wt (Qd t) _) (Qd t)=_
 rw [Qw,if_pos rfl]
theorem Qiv (hm:Zd c g n m) {t:Tx} (hf:Qh t=true) (hc:m.q.clock<YF) (hg:g ∈ Qf c t):Jl (Zl c g m t) (Qd t):=by
 have hgc:(Qf c t).contains g=true:=by simpa using hg
 unfold Zl
 split
 ·exact .inl (by obtain ⟨v,e⟩:=QlR m t (Qf c t);rw [e];rfl)
 ·rename_i hW
  cases hd:(Qe m.dc (Qd t)).isSome with
  | true=>exact .inr hd
  | false =>
   cases hw:(Qe m.wt (Qd t)).isSome with
   | true=>exact .inl hw
   | false =>
    exfalso
    apply hW
    have hK:Ys m.q (Qd t) (Qf c t)=0:=by
     have h1:QbM (Qd t)=true:=(YR hf).1
     have h2:Yy m.q.g (Qf c t)=true:=by rw [hm.qg];exact Qb3 hm.cf hgc
     have h3:Zn m.q (Qd t)=false:=by rw [hm.has];exact hw
     have h4:¬ YF<=m.q.clock:=by omega
     rw [Ys,h1,h2,h3]
     simp [h4]
    rw [Ye,hgc,hd,hw,hK]
    rfl
def Jm (all:List Tx):Prop:=∀ t ∈ all,∀ t' ∈ all,Qd t=Qd t'->t=t'
theorem Qj9 (hL:JK c all G g m) (hm:Zd c g n m) (hj:Jm all) {t:Tx} (ht:t ∈ all) (hu:OB G u) (hc:m.q.clock+1<=u):∃ G',YT c all G G' g (Zl c g m t) (Z6 c g m t) 2 u:=by
 have hc':m.q.clock<=u:=by omega
 by_cases hW:Ye c g m t=4
 ·obtain ⟨h1,h2,h3,h4⟩:=QaE hW
  have hg:g ∈ Qf c t:=by simpa using h1
  have hno:G.own g (Qd t)=none:=by
   cases e:G.own g (Qd t) with
   | none=>rfl
   | some s =>
    have:=hL.ow _ _ e
    rw [h2,h3] at this
    rcases this with q | q <;> cases q
  have hle:=QfY (s:=m.q.clock+1) hno
  have hq:=Qj7 hL.q ht hno h4
  have hu':OB (G.setOwn g (Qd t) (m.q.clock+1)) u:=fun h i s e=>by
   have e':(if h=g/\i=Qd t then some (m.q.clock+1) else G.own h i)=some s:=e
   split at e'
   ·cases e';omega
   ·exact hu h i s e'
  have hcl:(QG m.q (Qd t) (Qf c t)).clock<=u:=by rw [QG,if_pos h4];exact hc
  obtain ⟨r1,r2,r3⟩:=Qbq (i:=Qd t) hu' (Qf c t) hq hcl (fun j h s e=>hle.own _ _ _ (hL.st j h s e))
  obtain ⟨s1,s2⟩:=Qcf (gs0:=Qf c t) (i:=Qd t) (G:=G) (vs:=[]) (Qf c t) (fun x hx=>by cases hx) hL.vo
  have hbM:Zl c g m t=Qe0 m t (Qf c t):=by rw [Zl,if_pos hW]
  have hbO:Z6 c g m t=YQ g (QG m.q (Qd t) (Qf c t)) (Qd t) ⟨t,Qf c t,[]⟩:=by simp only [Z6,hW]
  have hwt:∀ j,Qe (Qe0 m t (Qf c t)).wt j=if j=Qd t then some ⟨t,Qf c t,((Qf c t).foldl (Q1 (Qf c t) (Qd t)) ([],m.vo)).1⟩ else Qe m.wt j:=fun j=>Qw _ _ _ _
  have hhas:Zn (QG m.q (Qd t) (Qf c t)) (Qd t)=true:=by
   rw [Qdt,(V4 h4).1.mem_iff]
   simp
  obtain ⟨t1,t2⟩:=QeD (g:=g) (v:=⟨t,Qf c t,[]⟩) hq hhas ht rfl rfl hg (fun x hx=>by cases hx) ⟨Vg hm.cf,List.Pairwise.nil,fun v hv=>by cases hv⟩
  refine ⟨G.setOwn g (Qd t) (m.q.clock+1),{ cnt:=fun h=>?_,ob:=hu',ck:=?_,le:=hle,row:=Qj6,loc:=?_,told:=?_,tello:=?_,tellv:=fun i y e=>.inl e,dom:=?_ }⟩
  ·rw [hbO];have:=t2 h
   have e:Vu all (G.setOwn g (Qd t) (m.q.clock+1)) g=Vu all G g:=rfl
   omega
  ·rw [hbM];exact r2
  ·rw [hbM]
   refine { q:=r1,w:=fun j v e=>?_,d:=fun i y s e=>?_,st:=fun j h s e=>hle.own _ _ _ (hL.st j h s (r3 j h s e)),vo:=fun j h y e=>hL.vo j h y (s2 j h y e),ow:=fun j s e=>?_,vt:=fun j y e=>?_ }
   ·rw [hwt] at e
    by_cases ej:j=Qd t
    ·rw [if_pos ej] at e;cases e;rw [ej];exact ⟨ht,s1⟩
    ·rw [if_neg ej] at e;exact ⟨(hL.w j v e).1,(hL.w j v e).2⟩
   ·obtain ⟨t',a1,a2,a3,a4,a5,a6⟩:=hL.d i y s e
    exact ⟨t',a1,a2,a3,a4.le hle,a5.le hle,a6⟩
   ·rw [hwt]
    by_cases ej:j=Qd t
    ·rw [if_pos ej];exact .inl rfl
    ·rw [if_neg ej]
     have e':(if g=g/\j=Qd t then some (m.q.clock+1) else G.own g j)=some s:=e
     rw [if_neg (fun z=>ej z.2)] at e'
     exact hL.ow j s e'
   ·rw [hwt]
    rcases hL.vt j y e with e | ⟨v,e1,e2⟩
    ·exact .inl e
    ·have ej:j ≠ Qd t:=fun z=>by rw [z,h3] at e1;cases e1
     rw [if_neg ej]
     exact .inr ⟨v,e1,e2⟩
  ·rw [hbO];exact t1
  ·intro i s e
   have e':(if g=g/\i=Qd t then some (m.q.clock+1) else G.own g i)=some s:=e
   by_cases ei:i=Qd t
   ·right
    intro t' ht' hi' h hh hne
    rw [hj t' ht' t ht (by rw [hi',ei])] at hh
    refine ⟨⟨2,h,Qd t,(Zo (QG m.q (Qd t) (Qf c t)) (Qd t)).own,false⟩,?_,rfl,rfl,ei.symm⟩
    rw [hbO,YQ]
    exact List.mem_append_left _ (U2.2 ⟨h,hh,hne,rfl⟩)
   ·rw [if_neg (fun z=>ei z.2)] at e'
    exact .inl e'
  ·intro i s e
   have e':(if g=g/\i=Qd t then some (m.q.clock+1) else G.own g i)=some s:=e
   by_cases ei:i=Qd t
   ·exact .inr ⟨t,ht,ei.symm,hg⟩
   ·rw [if_neg (fun z=>ei z.2)] at e'
    exact .inl e'
 ·have hbM:Zl c g m t=m:=by rw [Zl,if_neg hW]
  rw [hbM]
  have hO:XD c all G g (Z6 c g m t)/\∀ h,(Y9 h (Z6 c g m t)).length<=2:=by
   unfold Z6
   split
   ·refine ⟨fun x hx=>?_,fun h=>?_⟩
    ·rw [List.mem_singleton.1 hx];exact .inl rfl
    ·refine Nat.le_trans (List.length_filter_le _ _) ?_
     simp
   ·rename_i hW2
    unfold Ye at hW2
    split at hW2;· cases hW2
    split at hW2;· cases hW2
    split at hW2
    ·rename_i e1 e2 e3
     obtain ⟨v,hv⟩:=Option.isSome_iff_exists.1 e3
     have hw:ZD m (Qd t)=v:=by rw [ZD,hv];rfl
     have hok:=hm.w _ v hv
     obtain ⟨a1,a2⟩:=hL.w _ v hv
     rw [hw]
     exact QeD hL.q (by rw [hm.has];exact e3) a1 hok.id hok.gs (by have:=hok.me;rw [hok.gs] at this;simpa using this) a2 hok.tal
    ·split at hW2 <;> cases hW2
   ·rename_i hW4;exact absurd hW4 hW
   ·exact ⟨XD.nil,fun h=>Nat.zero_le _⟩
  exact ⟨G,YT.told' hL hu hc' hO.1 hO.2⟩
theorem Qka (hL:JK c all G g m) (hm:Zd c g n m) (hu:OB G u) (hc:m.q.clock<=u) {k:Int} {i:Qp} {h:Int} {s:Nat} {y:Bool} (h2:k=2->G.own h i=some s) (h3:k ≠ 2->G.vote h i=some y):YT c all G G g (Zm g m k i h s y) [] 0 u:=by
 have key:JK c all G g (Zm g m k i h s y)/\(Zm g m k i h s y).q.clock<=u:=by
  unfold Zm
  split
  ·exact ⟨hL,hc⟩
  ·split
   ·rename_i hw
    split
    ·rename_i ek
     exact ⟨{ hL with q:=QeC hL.q (h2 ek) },Qc1 hL.q hu hc (hu _ _ _ (h2 ek)).2⟩
    ·rename_i ek
     obtain ⟨v,hv⟩:=Option.isSome_iff_exists.1 hw
     have e:ZD m i=v:=by rw [ZD,hv];rfl
     rw [e]
     have hwt:∀ j,Qe (Qs m.wt i { v with vs:=ZS v.gs v.vs h y }) j=if j=i then some { v with vs:=ZS v.gs v.vs h y } else Qe m.wt j:=fun j=>Qw _ _ _ _
     refine ⟨{ hL with w:=fun j x ex=>?_,ow:=fun j s' es=>?_,vt:=fun j y' ey=>?_ },hc⟩
     ·have ex':Qe (Qs m.wt i { v with vs:=ZS v.gs v.vs h y }) j=some x:=ex
      rw [hwt] at ex'
      by_cases ej:j=i
      ·rw [if_pos ej] at ex';cases ex';rw [ej]
       exact ⟨(hL.w i v hv).1,Qdw (hL.w i v hv).2 (h3 ek)⟩
      ·rw [if_neg ej] at ex';exact hL.w j x ex'
     ·show (Qe (Qs m.wt i _) j).isSome=true \/ _
      rw [hwt]
      by_cases ej:j=i
      ·rw [if_pos ej];exact .inl rfl
      ·rw [if_neg ej];exact hL.ow j s' es
     ·show _ \/ ∃ x,Qe (Qs m.wt i _) j=some x/\_
      rcases hL.vt j y' ey with q | ⟨x,q1,q2⟩
      ·exact .inl q
      ·right
       rw [hwt]
       by_cases ej:j=i
       ·rw [if_pos ej]
        rw [ej,hv] at q1;cases q1
        refine ⟨_,rfl,?_⟩
        show QU (ZS v.gs v.vs h y) g=true
        unfold ZS
        split
        ·rw [KX,q2];rfl
        ·exact q2
       ·rw [if_neg ej];exact ⟨x,q1,q2⟩
   ·split
    ·rename_i ek
     split
     ·exact ⟨hL,hc⟩
     ·refine ⟨{ hL with st:=fun j h' s' e=>?_ },hc⟩
      have e':Qe (Qs m.st (i,h) s) (j,h')=some s':=e
      rw [Qw] at e'
      split at e'
      ·rename_i ej;cases e';cases ej;exact h2 ek
      ·exact hL.st j h' s' e'
    ·rename_i ek
     split
     ·exact ⟨hL,hc⟩
     ·refine ⟨{ hL with vo:=fun j h' s' e=>?_ },hc⟩
      have e':Qe (Qs m.vo (i,h) y) (j,h')=some s':=e
      rw [Qw] at e'
      split at e'
      ·rename_i ej;cases e';cases ej;exact h3 ek
      ·exact hL.vo j h' s' e'
 exact { cnt:=fun _=>by show 0+_<=_;omega,ob:=hu,ck:=key.2,le:=Gh.Le.refl _,row:=Gh.Row.refl _ _,loc:=key.1,told:=XD.nil,tello:=fun _ _ e=>.inl e,tellv:=fun _ _ e=>.inl e,dom:=fun _ _ e=>.inl e }
end
section
variable {c:Ql} {all:List Tx} {G G':Gh} {g:Int} {n u:Nat} {m m':Qk}
theorem JK.same (h:JK c all G g m) (hq:m'.q=m.q) (hw:∀ i,Qe m'.wt i=Qe m.wt i) (hd:m'.dc=m.dc) (hs:m'.st=m.st) (hv:m'.vo=m.vo):JK c all G g m' :=
 { q:=by rw [hq];exact h.q,w:=fun i v e=>h.w i v (by rw [<- hw];exact e),d:=fun i y s e=>h.d i y s (by rw [<- hd];exact e),st:=fun i x s e=>h.st i x s (by rw [<- hs];exact e),vo:=fun i x y e=>h.vo i x y (by rw [<- hv];exact e),ow:=fun i s e=>by rw [hw,hd];exact h.ow i s e,vt:=fun i y e=>by rw [hw,hd];exact h.vt i y e }
theorem Qbr {gs:List Int} {vs:List (Int × Bool)} {h:Int} {y:Bool} (hg:gs.contains h=true):QU (ZS gs vs h y) h=true:=by
 unfold ZS
 split
 ·rw [KX];simp
 ·rename_i e
  simp only [X3,hg,Bool.true_and,Bool.not_eq_true',Bool.not_eq_false] at e
  exact e
theorem QlS (hL:JK c all G g m) (hm:Zd c g n m) (hj:Jm all) (hu:OB G u) (hc:m.q.clock<=u) {i:Qp} {v:Zj} (hv:Qe m.wt i=some v):∃ G',YT c all G G' g (UP c g m i v) (YW c g m i v) 0 u/\QU (QF c g m v) g=true:=by
 have hok:=hm.w i v hv
 obtain ⟨a1,a2⟩:=hL.w i v hv
 have hwt:∀ j,Qe (UP c g m i v).wt j=if j=i then some { v with vs:=QF c g m v } else Qe m.wt j:=fun j=>Qw _ _ _ _
 cases hh:QU v.vs g with
 | true =>
  have eO:QF c g m v=v.vs:=by rw [QF,if_pos hh]
  have eV:YW c g m i v=[]:=by rw [YW,if_pos hh]
  rw [eO,eV]
  refine ⟨G,?_,hh⟩
  have hL':JK c all G g (UP c g m i v):=hL.same rfl (fun j=>by
   rw [hwt,eO]
   by_cases e:j=i
   ·rw [if_pos e,e,hv]
   ·rw [if_neg e]) rfl rfl rfl
  exact YT.refl hL' hu hc
 | false =>
  obtain ⟨y,hy⟩:∃ y,Yj m.s (Q4 c v.t g)=y:=⟨_,rfl⟩
  have eO:QF c g m v=ZS v.gs v.vs g y:=by rw [QF,if_neg (by rw [hh];decide),hy]
  have eV:YW c g m i v=Zb g v.gs 3 i 0 y:=by rw [YW,if_neg (by rw [hh];decide),hy]
  rw [eO] at hwt
  rw [eO,eV]
  have hno:G.vote g i=none:=by
   cases e:G.vote g i with
   | none=>rfl
   | some y' =>
    rcases hL.vt i y' e with q | ⟨v',q1,q2⟩
    ·have:=hm.dis i q;rw [hv] at this;cases this
    ·rw [hv] at q1;cases q1;rw [hh] at q2;cases q2
  have hle:=Qj5 (y:=y) hno
  have hg:g ∈ Qf c v.t:=by have:=hok.me;rw [hok.gs] at this;simpa using this
  refine ⟨G.setVote g i y,{ cnt:=fun h=>?_,ob:=hu,ck:=hc,le:=hle,row:=Qis,loc:=?_,told:=QfZ a1 hok.id hok.gs hg U1,tello:=fun _ _ e=>.inl e,tellv:=fun j y' e=>?_,dom:=fun _ _ e=>.inl e },Qbr hok.me⟩
  ·have h1:=QcI (g:=g) (k:=3) (i:=i) (s:=0) (y:=y) (h:=h) hok.tal.nodup
   have h2:=QoJ (all:=all) hle hno (by rw [U1];rfl) ⟨v.t,a1,hok.id⟩
   omega
  ·refine { q:=hL.q.le hle,w:=fun j x e=>?_,d:=fun j y' s e=>?_,st:=fun j x s e=>hle.own _ _ _ (hL.st j x s e),vo:=fun j x y' e=>hle.vote _ _ _ (hL.vo j x y' e),ow:=fun j s e=>?_,vt:=fun j y' e=>?_ }
   ·rw [hwt] at e
    by_cases ej:j=i
    ·rw [if_pos ej] at e;cases e;rw [ej]
     exact ⟨a1,Qdw (fun x hx=>hle.vote _ _ _ (a2 x hx)) U1⟩
    ·rw [if_neg ej] at e;exact ⟨(hL.w j x e).1,(hL.w j x e).2.le hle⟩
   ·obtain ⟨t',b1,b2,b3,b4,b5,b6⟩:=hL.d j y' s e
    refine ⟨t',b1,b2,b3,b4.le hle,b5.le hle,?_⟩
    obtain ⟨z,ez⟩:=Option.isSome_iff_exists.1 b6
    rw [hle.vote _ _ _ ez];rfl
   ·rw [hwt]
    by_cases ej:j=i
    ·rw [if_pos ej];exact .inl rfl
    ·rw [if_neg ej];exact hL.ow j s e
   ·rw [hwt]
    by_cases ej:j=i
    ·rw [if_pos ej];exact .inr ⟨_,rfl,Qbr hok.me⟩
    ·rw [if_neg ej]
     have e':(if g=g/\j=i then some y else G.vote g j)=some y':=e
     rw [if_neg (fun z=>ej z.2)] at e'
     exact hL.vt j y' e'
  ·have e':(if g=g/\j=i then some y else G.vote g j)=some y':=e
   by_cases ej:j=i
   ·right
    intro t' ht' hi' h hh' hne
    rw [hj t' ht' v.t a1 (by rw [hi',ej,hok.id])] at hh'
    exact ⟨⟨3,h,i,0,y⟩,U2.2 ⟨h,by rw [hok.gs];exact hh',hne,rfl⟩,rfl,rfl,ej.symm⟩
   ·rw [if_neg (fun z=>ej z.2)] at e'
    exact .inl e'
theorem QoK {t:Tx} {i:Qp} {vs:List (Int × Bool)} {gs:List Int} (hgs:gs=Qf c t) (hi:Qd t=i) (hv:QaH G i vs) (ht:Yh gs vs) (hk:Yd gs.length vs=true):Qcd c G t (Zk gs.length vs):=by
 subst hi
 unfold Zk Yd at *
 constructor
 ·intro e h hh
  simp only [Bool.and_eq_true,Bool.not_eq_true'] at e
  have h2:=ht.all_voted
  rw [e.2,List.all_eq_true] at h2
  rw [<- hgs] at hh
  have h3:=U3 ht (h2 h hh)
  have h4:=hv _ h3
  have h5:Zh vs h=true:=by
   have:=e.1
   rw [VM,List.any_eq_false] at this
   have:=this _ h3
   simpa using this
  rw [h4,h5]
 ·intro e
  have hn:VM vs=true:=by
   cases q:VM vs
   ·rw [q] at e hk
    simp only [Bool.not_false,Bool.true_and,Bool.false_or] at e hk
    rw [e] at hk;cases hk
   ·rfl
  rw [VM,List.any_eq_true] at hn
  obtain ⟨x,hx,q⟩:=hn
  refine ⟨x.1,by rw [<- hgs];exact ht.sub x hx,?_⟩
  rw [hv x hx]
  simpa using q
theorem Qnf (hL:JK c all G g m) (hm:Zd c g n m) (hj:Jm all) {i:Qp} {final:Nat} (hn:Z2 m.q=some (i,final)) {v:Zj} (hv:Qe m.wt i=some v) (hh:QU v.vs g=true) (hk:Yd v.gs.length v.vs=true):JK c all G g (ZY m i (Zk v.gs.length v.vs) final):=by
 obtain ⟨o,l,e1,e2,e3,e4⟩:=Qez hn
 have ho:o ∈ m.q.l:=by rw [e1];exact List.mem_cons_self
 have hok:=hm.w i v hv
 obtain ⟨a1,a2⟩:=hL.w i v hv
 have hl:=hL.q o ho
 obtain ⟨t',b1,b2,b3⟩:=hl.1
 have et:t'=v.t:=hj t' b1 v.t a1 (by rw [b2,e3,hok.id])
 subst et
 have hF:=Qce (hm.q.one o ho) hm.qg hl e4 b2 b3
 rw [e2] at hF
 have hg:g ∈ Qf c v.t:=by have:=hok.me;rw [hok.gs] at this;simpa using this
 have hdc:∀ j,Qe (ZY m i (Zk v.gs.length v.vs) final).dc j=if j=i then some (Zk v.gs.length v.vs,final) else Qe m.dc j:=fun j=>Qw _ _ _ _
 have hwt:∀ j,Qe (ZY m i (Zk v.gs.length v.vs) final).wt j=if j=i then none else Qe m.wt j:=fun j=>ZF _ _ _
 have hvg:G.vote g i=some (Zh v.vs g):=a2 _ (U3 hok.tal hh)
 refine { q:=QlP hL.q,w:=fun j x e=>?_,d:=fun j y s e=>?_,st:=hL.st,vo:=hL.vo,ow:=fun j s e=>?_,vt:=fun j y e=>?_ }
 ·rw [hwt] at e
  by_cases ej:j=i
  ·rw [if_pos ej] at e;cases e
  ·rw [if_neg ej] at e;exact hL.w j x e
 ·rw [hdc] at e
  by_cases ej:j=i
  ·rw [if_pos ej] at e;cases e
   exact ⟨v.t,a1,by rw [ej];exact hok.id,hg,hF,QoK hok.gs hok.id a2 hok.tal hk,by rw [ej,hvg];rfl⟩
  ·rw [if_neg ej] at e;exact hL.d j y s e
 ·rw [hwt,hdc]
  by_cases ej:j=i
  ·rw [if_pos ej,if_pos ej];exact .inr rfl
  ·rw [if_neg ej,if_neg ej];exact hL.ow j s e
 ·rw [hwt,hdc]
  by_cases ej:j=i
  ·rw [if_pos ej];exact .inl rfl
  ·rw [if_neg ej,if_neg ej];exact hL.vt j y e
theorem Qng (hm:Zd c g n m) {i:Qp} {v:Zj} (hv:Qe m.wt i=some v):Zd c g n (UP c g m i v):=hm.setW (by rw [hv];rfl) { hm.w i v hv with tal:=Qan hm (hm.w i v hv) }
theorem QlT (hL:JK c all G g m) (hm:Zd c g n m) (hj:Jm all) (hu:OB G u) (hc:m.q.clock<=u):∃ G',YT c all G G' g (ZZ c g m).2.1 (ZZ c g m).2.2 0 u:=by
 unfold ZZ
 split
 ·exact ⟨G,YT.refl hL hu hc⟩
 ·rename_i i final hn
  obtain ⟨v,hv,hw,hok⟩:=Y3 hm hn
  simp only
  rw [hw]
  obtain ⟨G',hS,hh⟩:=QlS hL hm hj hu hc hv
  split
  ·rename_i hk
   have hv2:Qe (UP c g m i v).wt i=some { v with vs:=QF c g m v }:=by
    show Qe (Qs m.wt i _) i=_
    rw [Qw,if_pos rfl]
   have hD:=Qnf hS.loc (Qng hm hv) hj hn hv2 hh hk
   have hD2:JK c all G' g (ZY m i (Zk v.gs.length (QF c g m v)) final):=hD.same rfl (fun j=>by
    show Qe (Zc m.wt i) j=Qe (Zc (Qs m.wt i _) i) j
    rw [ZF,ZF,Qw]
    split <;> rfl) rfl rfl rfl
   have hck:(ZY m i (Zk v.gs.length (QF c g m v)) final).q.clock<=u:=hc
   have ht4:XD c all G' g [(⟨4, -1,i,final,Zk v.gs.length (QF c g m v)⟩:Qv)]:=fun x hx=>by rw [List.mem_singleton.1 hx];exact .inl rfl
   have h40:∀ h,(Y9 h [(⟨4, -1,i,final,Zk v.gs.length (QF c g m v)⟩:Qv)]).length<=0:=fun h=>by simp [Y9]
   refine ⟨G',?_⟩
   split
   ·obtain ⟨w1,w2,w3,w4,w5⟩:=QcH (ZY m i (Zk v.gs.length (QF c g m v)) final) final (Qr c v.t g)
    exact hS.trans (YT.told' (hD2.same w1 (fun j=>by rw [w5]) w4 w2 w3) hS.ob (by rw [w1];exact hck) ht4 h40)
   ·exact hS.trans (YT.told' hD2 hS.ob hck ht4 h40)
  ·exact ⟨G',hS⟩
theorem Qdx (hj:Jm all):∀ (k:Nat) {m:Qk} {G:Gh},Zd c g n m->JK c all G g m->OB G u->m.q.clock<=u->∃ G',YT c all G G' g (ZU c g k m).1 (ZU c g k m).2 0 u
 | 0,m,G,_,hL,hu,hc=>⟨G,YT.refl hL hu hc⟩
 | k+1,m,G,hm,hL,hu,hc=>by
  obtain ⟨G1,hS⟩:=QlT hL hm hj hu hc
  have h3:=(XW hm).1
  unfold ZU
  simp only
  split
  ·obtain ⟨G2,hS2⟩:=Qdx hj k h3 hS.loc hS.ob hS.ck
   exact ⟨G2,hS.trans hS2⟩
  ·exact ⟨G1,hS⟩
theorem QaI (hL:JK c all G g m) (hm:Zd c g n m) (hj:Jm all) {t:Tx} (ht:t ∈ all) (hf:Qh t=true) (hu:OB G u) (hc:m.q.clock+1<=u) (A B:Option Addr) (ca cb:Nat):∃ G',YT c all G G' g (Q5 c g m (YE t A B ca cb)) (Zs c g m (YE t A B ca cb)) 2 u:=by
 have hF:=KG (A:=A) (B:=B) (ca:=ca) (cb:=cb) hf
 rw [Q5,if_pos hF,Zs,if_pos hF]
 have hA:Zr c g m (YE t A B ca cb)=Zl c g m t:=if_pos (show (1:Int)=1 from rfl)
 have hP:Yt c g m (YE t A B ca cb)=Z6 c g m t:=if_pos (show (1:Int)=1 from rfl)
 rw [hA,hP]
 obtain ⟨G1,hS⟩:=Qj9 hL hm hj ht hu hc
 obtain ⟨G2,hS2⟩:=Qdx hj ((Zl c g m t).q.l.length+1) (Qam hm hf) hS.loc hS.ob hS.ck
 exact ⟨G2,hS.trans hS2⟩
theorem VT (hL:JK c all G g m) (hm:Zd c g n m) (hj:Jm all) {a:Q2} (hF:ZX a=true) (hk:a.k=2 \/ a.k=3) (hu:OB G u) (hc:m.q.clock<=u) (h2:a.k=2->G.own a.g ⟨a.is,a.iq⟩=some a.st) (h3:a.k ≠ 2->G.vote a.g ⟨a.is,a.iq⟩=some a.y):∃ G',YT c all G G' g (Q5 c g m a) (Zs c g m a) 0 u:=by
 rw [Q5,if_pos hF,Zs,if_pos hF]
 have h1:a.k ≠ 1:=by rcases hk with e | e <;> omega
 have hA:Zr c g m a=Zm g m a.k ⟨a.is,a.iq⟩ a.g a.st a.y:=by rw [Zr,if_neg h1,if_pos hk]
 have hP:Yt c g m a=[]:=by rw [Yt,if_neg h1]
 have hO:=Jk hF
 have hst:a.st<18446744073709551616:=by have:=hO.st hk;omega
 rw [hA,hP]
 have hS:=Qka (n:=n) hL hm hu hc h2 h3
 obtain ⟨G2,hS2⟩:=Qdx hj ((Zm g m a.k ⟨a.is,a.iq⟩ a.g a.st a.y).q.l.length+1) (Qdv hm a.k ⟨a.is,a.iq⟩ a.g hst a.y) hS.loc hS.ob hS.ck
 exact ⟨G2,hS.trans hS2⟩
end
section
variable {c:Ql} {all:List Tx} {G G':Gh} {g:Int} {n u:Nat} {m m' m2:Qk}
def KnQ (q q':QD):Prop:=∀ o ∈ q.l,∃ o' ∈ q'.l,o'.id=o.id/\∀ h,ZG o.known h=true->ZG o'.known h=true
theorem KnQ.refl (q:QD):KnQ q q:=fun o ho=>⟨o,ho,rfl,fun _ h=>h⟩
theorem KnQ.trans {a b d:QD} (h:KnQ a b) (h':KnQ b d):KnQ a d:=fun o ho=>by
 obtain ⟨o1,h1,e1,k1⟩:=h o ho
 obtain ⟨o2,h2,e2,k2⟩:=h' o1 h1
 exact ⟨o2,h2,e2.trans e1,fun x hx=>k2 x (k1 x hx)⟩
theorem QlU {q:QD} {i:Qp} {gs:List Int}:KnQ q (QG q i gs):=by
 rw [QG]
 split
 ·exact fun o ho=>⟨o,(Zz _).mem_iff.2 (List.mem_append_left _ ho),rfl,fun _ h=>h⟩
 ·exact KnQ.refl _
theorem Qf0 {q:QD} {i:Qp} {x:Int} {s:Nat} (h:ZQ q i x s=2):QP (Zo q i) x s ∈ (QZ q i x s).l:=by
 rw [QZ,if_pos h]
 have e1:Zn q i=true:=by
  cases e:Zn q i
  ·rw [ZQ,if_pos e] at h;cases h
  ·rfl
 obtain ⟨hk,_,_⟩:=Xt e1
 exact (Zz _).mem_iff.2 (List.mem_set hk _)
theorem Qf1 (vs:List (Int × Nat)) (g h:Int) (y:Nat):ZG (vs ++ [(g,y)]) h=(ZG vs h || decide (g=h)):=by simp [ZG]
theorem Qf2 {q:QD} {i:Qp} {x:Int} {s:Nat}:KnQ q (QZ q i x s):=by
 by_cases h:ZQ q i x s=2
 ·have hm:=Qf0 h
  intro o ho
  have e1:Zn q i=true:=by
   cases e:Zn q i
   ·rw [ZQ,if_pos e] at h;cases h
   ·rfl
  obtain ⟨hk,hid,_⟩:=Xt e1
  obtain ⟨j,hj,rfl⟩:=List.mem_iff_getElem.1 ho
  by_cases e:j=ZA q.l i
  ·subst e
   refine ⟨_,hm,?_,fun y hy=>?_⟩
   ·show (Zo q i).id=_
    rw [Zo,List.getD_eq_getElem?_getD,List.getElem?_eq_getElem hj];rfl
   ·show ZG ((Zo q i).known ++ [(x,s)]) y=true
    rw [Qf1,Zo,List.getD_eq_getElem?_getD,List.getElem?_eq_getElem hj]
    show (ZG (q.l[ZA q.l i]).known y || _)=true
    rw [hy];rfl
  ·refine ⟨q.l[j],?_,rfl,fun _ h=>h⟩
   rw [QZ,if_pos h]
   refine (Zz _).mem_iff.2 ?_
   rw [List.mem_iff_getElem]
   exact ⟨j,by rw [List.length_set];exact hj,by rw [List.getElem_set_ne (fun z=>e z.symm)]⟩
 ·rw [QZ,if_neg h]
  exact KnQ.refl _
theorem Qcg {i:Qp}:∀ (gs:List Int) {q:QD} {st:List (ZO × Nat)},KnQ q (gs.foldl (Qx i) (q,st)).1
 | [],q,_=>KnQ.refl q
 | h :: gs,q,st=>by
  rw [List.foldl_cons]
  cases e:Qe st (i,h) with
  | none =>
   have e2:Qx i (q,st) h=(q,Zc st (i,h)):=by rw [Qx,e]
   rw [e2];exact Qcg gs
  | some s =>
   have e2:Qx i (q,st) h=(QZ q i h s,Zc st (i,h)):=by rw [Qx,e]
   rw [e2];exact Qf2.trans (Qcg gs)
structure Yn (m m':Qk):Prop where
 dc:ZC m m'
 q:∀ o ∈ m.q.l,(Qe m'.dc o.id).isSome=true \/ ∃ o' ∈ m'.q.l,o'.id=o.id/\∀ h,ZG o.known h=true->ZG o'.known h=true
 w:∀ i v,Qe m.wt i=some v->(Qe m'.dc i).isSome=true \/ ∃ v',Qe m'.wt i=some v'/\∀ h,QU v.vs h=true->QU v'.vs h=true
theorem ZC.isSome (h:ZC m m') {i:Qp} (e:(Qe m.dc i).isSome=true):(Qe m'.dc i).isSome=true:=by
 obtain ⟨d,hd⟩:=Option.isSome_iff_exists.1 e
 rw [h i d hd];rfl
theorem Yn.refl (m:Qk):Yn m m:=⟨ZC.refl m,fun o ho=>.inr ⟨o,ho,rfl,fun _ h=>h⟩,fun i v e=>.inr ⟨v,e,fun _ h=>h⟩⟩
theorem Yn.trans (h:Yn m m') (h':Yn m' m2):Yn m m2 :=
 ⟨h.dc.trans h'.dc,fun o ho=>by
  rcases h.q o ho with e | ⟨o1,h1,e1,k1⟩
  ·exact .inl (h'.dc.isSome e)
  ·rcases h'.q o1 h1 with e | ⟨o2,h2,e2,k2⟩
   ·exact .inl (e1 ▸ e)
   ·exact .inr ⟨o2,h2,e2.trans e1,fun x hx=>k2 x (k1 x hx)⟩,fun i v e=>by
  rcases h.w i v e with q | ⟨v1,e1,k1⟩
  ·exact .inl (h'.dc.isSome q)
  ·rcases h'.w i v1 e1 with q | ⟨v2,e2,k2⟩
   ·exact .inl q
   ·exact .inr ⟨v2,e2,fun x hx=>k2 x (k1 x hx)⟩⟩
theorem Qkb {t:Tx}:Yn m (Zl c g m t):=by
 unfold Zl
 split
 ·rename_i hW
  obtain ⟨h1,h2,h3,h4⟩:=QaE hW
  refine ⟨fun i d e=>e,fun o ho=>.inr ((QlU.trans (Qcg (Qf c t))) o ho),fun i v e=>.inr ⟨v,?_,fun _ h=>h⟩⟩
  show Qe (Qs m.wt (Qd t) _) i=some v
  rw [Qw,if_neg (fun z=>by rw [z,h3] at e;cases e)]
  exact e
 ·exact Yn.refl _
theorem QeE {gs:List Int} {vs:List (Int × Bool)} {x h:Int} {y:Bool} (e:QU vs h=true):QU (ZS gs vs x y) h=true:=by
 unfold ZS
 split
 ·rw [KX,e];rfl
 ·exact e
theorem QhL {i:Qp} {v v':Zj} (hv:Qe m.wt i=some v) (hk:∀ h,QU v.vs h=true->QU v'.vs h=true):Yn m { m with wt:=Qs m.wt i v' } :=
 ⟨fun _ _ e=>e,fun o ho=>.inr ⟨o,ho,rfl,fun _ h=>h⟩,fun j x e=>.inr (by
  show ∃ z,Qe (Qs m.wt i v') j=some z/\_
  rw [Qw]
  by_cases ej:j=i
  ·rw [if_pos ej]
   rw [ej,hv] at e;cases e
   exact ⟨v',rfl,hk⟩
  ·rw [if_neg ej];exact ⟨x,e,fun _ h=>h⟩)⟩
theorem Qkc {k:Int} {i:Qp} {h:Int} {s:Nat} {y:Bool}:Yn m (Zm g m k i h s y):=by
 unfold Zm
 split
 ·exact Yn.refl _
 ·split
  ·rename_i hw
   obtain ⟨v,hv⟩:=Option.isSome_iff_exists.1 hw
   split
   ·exact ⟨fun _ _ e=>e,fun o ho=>.inr (Qf2 o ho),fun i v e=>.inr ⟨v,e,fun _ h=>h⟩⟩
   ·have e:ZD m i=v:=by rw [ZD,hv];rfl
    rw [e]
    exact QhL hv (fun x hx=>QeE hx)
  ·split
   ·split
    ·exact Yn.refl _
    ·exact ⟨fun _ _ e=>e,fun o ho=>.inr ⟨o,ho,rfl,fun _ h=>h⟩,fun i v e=>.inr ⟨v,e,fun _ h=>h⟩⟩
   ·split
    ·exact Yn.refl _
    ·exact ⟨fun _ _ e=>e,fun o ho=>.inr ⟨o,ho,rfl,fun _ h=>h⟩,fun i v e=>.inr ⟨v,e,fun _ h=>h⟩⟩
theorem Yn.write {final:Nat} {ws:List Wr} (h:Yn m m'):Yn m (Zq m' final ws):=by
 obtain ⟨w1,w2,w3,w4,w5⟩:=QcH m' final ws
 exact ⟨fun i d e=>by rw [w4];exact h.dc i d e,fun o ho=>by rw [w1,w4];exact h.q o ho,fun i v e=>by rw [w4,w5];exact h.w i v e⟩
theorem Qf3 (hm:Zd c g n m) {i:Qp} {s:Nat} (hn:Z2 m.q=some (i,s)) (y:Bool):Yn m (ZY m i y s):=by
 obtain ⟨o,l,e1,e2,e3,e4⟩:=Qez hn
 obtain ⟨v,hv,_,_⟩:=Y3 hm hn
 have hd:Qe (ZY m i y s).dc i=some (y,s):=by
  show Qe (Qs m.dc i _) i=_
  rw [Qw,if_pos rfl]
 refine ⟨fun j d e=>?_,fun x hx=>?_,fun j x e=>?_⟩
 ·show Qe (Qs m.dc i _) j=some d
  rw [Qw,if_neg (fun z=>by
   have:=hm.dis j (by rw [e];rfl)
   rw [z,hv] at this;cases this)]
  exact e
 ·rw [e1] at hx
  rcases List.mem_cons.1 hx with rfl | hx
  ·left;rw [e3,hd];rfl
  ·refine .inr ⟨x,?_,rfl,fun _ h=>h⟩
   show x ∈ m.q.l.drop 1
   rw [e1];exact hx
 ·by_cases ej:j=i
  ·left;rw [ej,hd];rfl
  ·right
   refine ⟨x,?_,fun _ h=>h⟩
   show Qe (Zc m.wt i) j=some x
   rw [ZF,if_neg ej];exact e
theorem QlV {v:Zj} {h:Int} (e:QU v.vs h=true):QU (QF c g m v) h=true:=by
 unfold QF
 split
 ·exact e
 ·exact QeE e
theorem QlW (hm:Zd c g n m):Yn m (ZZ c g m).2.1:=by
 unfold ZZ
 split
 ·exact Yn.refl _
 ·rename_i i final hn
  obtain ⟨v,hv,hw,hok⟩:=Y3 hm hn
  simp only
  rw [hw]
  split
  ·split
   ·exact (Qf3 hm hn _).write
   ·exact Qf3 hm hn _
  ·exact QhL hv (fun h e=>QlV e)
theorem Qbs:∀ (k:Nat) {m:Qk},Zd c g n m->Yn m (ZU c g k m).1
 | 0,m,_=>Yn.refl m
 | k+1,m,h=>by
  have h1:=QlW h
  have h3:=(XW h).1
  unfold ZU
  simp only
  split
  ·exact h1.trans (Qbs k h3)
  ·exact h1
theorem Qkd (h:Zd c g n m) (a:Q2):Yn m (Q5 c g m a):=by
 unfold Q5
 split
 ·rename_i hf
  have h1:=K3 h (Jk hf)
  refine Yn.trans ?_ (Qbs _ h1)
  unfold Zr
  split
  ·exact Qkb
  ·split
   ·exact Qkc
   ·exact Yn.refl _
 ·exact Yn.refl _
def QaJ (m:Qk) (a:Q2):Prop:=(Qe m.dc ⟨a.is,a.iq⟩).isSome=true \/ (a.k=2/\∃ o ∈ m.q.l,o.id=⟨a.is,a.iq⟩/\ZG o.known a.g=true) \/ (a.k ≠ 2/\∃ v,Qe m.wt ⟨a.is,a.iq⟩=some v/\QU v.vs a.g=true)
theorem QaJ.keep {a:Q2} (h:QaJ m a) (hk:Yn m m'):QaJ m' a:=by
 rcases h with e | ⟨e,o,ho,e1,e2⟩ | ⟨e,v,e1,e2⟩
 ·exact .inl (hk.dc.isSome e)
 ·rcases hk.q o ho with q | ⟨o',q1,q2,q3⟩
  ·rw [e1] at q;exact .inl q
  ·exact .inr (.inl ⟨e,o',q1,q2.trans e1,q3 _ e2⟩)
 ·rcases hk.w _ v e1 with q | ⟨v',q1,q2⟩
  ·exact .inl q
  ·exact .inr (.inr ⟨e,v',q1,q2 _ e2⟩)
theorem Jl.keep {i:Qp} (h:Jl m i) (hk:Yn m m'):Jl m' i:=by
 rcases h with e | e
 ·obtain ⟨v,hv⟩:=Option.isSome_iff_exists.1 e
  rcases hk.w i v hv with q | ⟨v',q,_⟩
  ·exact .inr q
  ·left;rw [q];rfl
 ·exact .inr (hk.dc.isSome e)
theorem QlX (hL:JK c all G g m) (hm:Zd c g n m) (hj:Jm all) {t:Tx} (ht:t ∈ all) {k:Int} {h:Int} {s:Nat} {y:Bool} (hh:h ∈ Qf c t) (hne:h ≠ g) (hb:Jl m (Qd t)) (hs:k=2->1<=s/\s<=YF) {a:Q2} (ha:a.k=k/\a.is=(Qd t).ses/\a.iq=(Qd t).seq/\a.g=h):QaJ (Zm g m k (Qd t) h s y) a:=by
 obtain ⟨a1,a2,a3,a4⟩:=ha
 unfold QaJ
 rw [a1,a2,a3,a4]
 show (Qe (Zm g m k (Qd t) h s y).dc (Qd t)).isSome=true \/ (k=2/\∃ o ∈ (Zm g m k (Qd t) h s y).q.l,o.id=Qd t/\ZG o.known h=true) \/ (k ≠ 2/\∃ v,Qe (Zm g m k (Qd t) h s y).wt (Qd t)=some v/\QU v.vs h=true)
 unfold Zm
 cases hd:(Qe m.dc (Qd t)).isSome with
 | true=>rw [Bool.true_or,if_pos rfl];exact .inl hd
 | false =>
  have hw:(Qe m.wt (Qd t)).isSome=true:=by
   rcases hb with e | e
   ·exact e
   ·rw [hd] at e;cases e
  rw [Bool.false_or,if_neg (by simp [hne]),if_pos hw]
  obtain ⟨v,hv⟩:=Option.isSome_iff_exists.1 hw
  have hok:=hm.w _ v hv
  have hvt:v.t=t:=hj v.t (hL.w _ v hv).1 t ht hok.id
  have hvg:v.gs=Qf c t:=by rw [hok.gs,hvt]
  right
  by_cases ek:k=2
  ·rw [if_pos ek]
   refine .inl ⟨ek,?_⟩
   show ∃ o ∈ (QZ m.q (Qd t) h s).l,_
   have hq:Zn m.q (Qd t)=true:=by rw [hm.has];exact hw
   obtain ⟨_,hid,hmem⟩:=Xt hq
   obtain ⟨t',b1,b2,b3⟩:=(hL.q _ hmem).1
   have et:t'=t:=hj t' b1 t ht (by rw [b2,hid])
   subst et
   have h1:decide (h=m.q.g)=false:=by rw [hm.qg];simp [hne]
   have h2:(Zo m.q (Qd t')).gs.contains h=true:=by rw [b3];simpa using hh
   have h3:=hs ek
   have hK:ZQ m.q (Qd t') h s=if ZG (Zo m.q (Qd t')).known h=true then 0 else 2:=by
    rw [ZQ,hq,h1,h2]
    have e1:decide (s<1)=false:=by simp;omega
    have e2:decide (YF<s)=false:=by simp;omega
    rw [e1,e2]
    simp
   by_cases hkn:ZG (Zo m.q (Qd t')).known h=true
   ·rw [if_pos hkn] at hK
    have e:QZ m.q (Qd t') h s=m.q:=by rw [QZ,if_neg (by rw [hK];decide)]
    rw [e]
    exact ⟨_,hmem,hid,hkn⟩
   ·rw [if_neg hkn] at hK
    refine ⟨_,Qf0 hK,hid,?_⟩
    show ZG ((Zo m.q (Qd t')).known ++ [(h,s)]) h=true
    rw [Qf1];simp
  ·rw [if_neg ek]
   refine .inr ⟨ek,?_⟩
   have e:ZD m (Qd t)=v:=by rw [ZD,hv];rfl
   rw [e]
   refine ⟨{ v with vs:=ZS v.gs v.vs h y },?_,Qbr (by rw [hvg];simpa using hh)⟩
   show Qe (Qs m.wt (Qd t) _) (Qd t)=_
   rw [Qw,if_pos rfl]
def Qke (g:Int) (m:Qk):Prop:=∀ i s,Z2 m.q=some (i,s)->∃ v,Qe m.wt i=some v/\QU v.vs g=true/\Yd v.gs.length v.vs=false
theorem QhM:∀ (k:Nat) {m:Qk},Zd c g n m->m.q.l.length<k->Qke g (ZU c g k m).1
 | 0,m,_,h=>absurd h (Nat.not_lt_zero _)
 | k+1,m,hm,hl=>by
  obtain ⟨h3,h4⟩:=XW hm
  unfold ZU
  simp only
  split
  ·rename_i e
   have:=h4 e
   exact QhM k h3 (by omega)
  ·rename_i e
   clear h3 h4
   unfold ZZ at e ⊢
   split at e
   ·rename_i hn
    intro i s hs
    rw [hn] at hs;cases hs
   ·rename_i i final hn
    obtain ⟨v,hv,hw,hok⟩:=Y3 hm hn
    simp only at e ⊢
    rw [hw] at e ⊢
    split at e
    ·exact absurd rfl e
    ·rename_i hk
     rw [if_neg hk]
     intro j s hs
     have hs':Z2 m.q=some (j,s):=hs
     rw [hn] at hs'
     cases hs'
     refine ⟨{ v with vs:=QF c g m v },?_,?_,by simpa using hk⟩
     ·show Qe (Qs m.wt i _) i=_
      rw [Qw,if_pos rfl]
     ·show QU (QF c g m v) g=true
      unfold QF
      split
      ·assumption
      ·exact Qbr hok.me
theorem Qkf (h:Zd c g n m) {a:Q2} (hf:ZX a=true):Qke g (Q5 c g m a):=by
 rw [Q5,if_pos hf]
 exact QhM _ (K3 h (Jk hf)) (Nat.lt_succ_self _)
end
structure Wd where
 m:Nat->Qk
 way:Nat->List Q2
 cnt:Nat->Nat
def XE (g:Nat) (x:Qv):Q2:=⟨x.kind,⟨0,0,[],[]⟩,none,none,0,0,x.id.ses,x.id.seq,g,x.stamp,x.yes⟩
def ZN (c : Ql) (W : Wd) (g : Nat) (a : Q2) : Wd :=
  { m := fun h => if h = g then Q5 c g (W.m g) a else W.m h
    way := fun h => W.way h ++ (Y9 h (Zs c g (W.m g) a)).map (XE g)
    cnt := fun h => if h = g then W.cnt g + 1 else W.cnt h }
def Yu:Wd:=⟨fun g=>YP g,fun _=>[],fun _=>0⟩
inductive Vo (c:Ql) (all:List Tx):Nat->Wd->Prop
 | zero:Vo c all 0 Yu
 | begin {k:Nat} {W:Wd} (h:Vo c all k W) {g:Nat} (hg:g<c.reps.length) {t:Tx} (ht:t ∈ all) (A B:Option Addr) (ca cb:Nat):Vo c all (k+1) (ZN c W g (YE t A B ca cb))
 | heard {k:Nat} {W:Wd} (h:Vo c all k W) {g:Nat} (hg:g<c.reps.length) {a:Q2} (ha:a ∈ W.way g):Vo c all k (ZN c W g a)
def Ud (all:List Tx) (G:Gh):Nat->Nat
 | 0=>0
 | n+1=>Ud all G n+Vu all G n
section
variable (c:Ql) (all:List Tx)
structure QeF (G:Gh) (h:Nat) (a:Q2):Prop where
 t:∃ t ∈ all,Qd t=⟨a.is,a.iq⟩/\(h:Int) ∈ Qf c t/\a.g ∈ Qf c t
 ne:a.g ≠ h
 f:ZX a=true
 x:(a.k=2/\G.own a.g ⟨a.is,a.iq⟩=some a.st) \/ (a.k=3/\G.vote a.g ⟨a.is,a.iq⟩=some a.y)
 sh:a.t=⟨0,0,[],[]⟩/\a.A=none/\a.B=none/\a.ca=0/\a.cb=0
structure J6 (k:Nat) (W:Wd) (G:Gh):Prop where
 mok:∀ g:Nat,g<c.reps.length->Zd c g (W.cnt g) (W.m g)
 loc:∀ g:Nat,g<c.reps.length->JK c all G g (W.m g)
 ob:OB G k
 ck:∀ g:Nat,g<c.reps.length->(W.m g).q.clock<=k
 msg:∀ h:Nat,h<c.reps.length->∀ a ∈ W.way h,QeF c all G h a
 tello:∀ g:Nat,g<c.reps.length->∀ i s,G.own g i=some s->∀ t ∈ all,Qd t=i->∀ h:Nat,(h:Int) ∈ Qf c t->h ≠ g->∃ a ∈ W.way h,a.k=2/\a.g=g/\a.is=i.ses/\a.iq=i.seq
 tellv:∀ g:Nat,g<c.reps.length->∀ i y,G.vote g i=some y->∀ t ∈ all,Qd t=i->∀ h:Nat,(h:Int) ∈ Qf c t->h ≠ g->∃ a ∈ W.way h,a.k=3/\a.g=g/\a.is=i.ses/\a.iq=i.seq
 head:∀ g:Nat,g<c.reps.length->Qke g (W.m g)
 len:∀ h:Nat,(W.way h).length+Ud all G c.reps.length<=2 * k+all.length * c.reps.length
end
section
variable {c:Ql} {all:List Tx} {G G':Gh} {k n u d:Nat} {W:Wd}
theorem Qoe {g:Int}:Vu all G g<=all.length:=List.length_filter_le _ _
theorem QhN:∀ n:Nat,Ud all G n<=all.length * n
 | 0=>Nat.le_refl _
 | n+1=>by
  have:=QhN n
  have:=Qoe (all:=all) (G:=G) (g:=n)
  rw [Ud,Nat.mul_succ];omega
theorem Qdy {g:Nat} (hr:Gh.Row g G G'):∀ n:Nat,Ud all G' n+(if g<n then Vu all G g else 0)=Ud all G n+(if g<n then Vu all G' g else 0)
 | 0=>rfl
 | n+1=>by
  have ih:=Qdy hr n
  rw [Ud,Ud]
  by_cases e:n=g
  ·subst e
   rw [if_neg (Nat.lt_irrefl _),if_neg (Nat.lt_irrefl _)] at ih
   rw [if_pos (Nat.lt_succ_self _),if_pos (Nat.lt_succ_self _)]
   omega
  ·have e2:Vu all G' n=Vu all G n:=by
    have:=(hr n (by omega)).2
    unfold Vu
    rw [this]
   rw [e2]
   by_cases hl:g<n
   ·rw [if_pos hl,if_pos hl] at ih
    rw [if_pos (by omega),if_pos (by omega)];omega
   ·rw [if_neg hl,if_neg hl] at ih
    rw [if_neg (by omega),if_neg (by omega)];omega
theorem QeF.le {h:Nat} {a:Q2} (hm:QeF c all G h a) (hl:G.Le G'):QeF c all G' h a :=
 { hm with x:=hm.x.imp (fun e=>⟨e.1,hl.own _ _ _ e.2⟩) (fun e=>⟨e.1,hl.vote _ _ _ e.2⟩) }
theorem QeG (a:Q2):XP a a=true:=by simp [XP,Us,Qd9]
theorem Qkg {g:Nat} {x:Qv} (hi:idB x.id.ses x.id.seq=true) (hg:g<4) (hx:(x.kind=2/\1<=x.stamp/\x.stamp<=1000/\x.yes=false) \/ (x.kind=3/\x.stamp=0)):ZX (XE g x)=true:=by
 have hgc:J5 g=true:=by simp [J5];omega
 rcases hx with ⟨e1,e2,e3,e4⟩ | ⟨e1,e2⟩
 ·have e:XE g x=⟨2,⟨0,0,[],[]⟩,none,none,0,0,x.id.ses,x.id.seq,g,x.stamp,false⟩:=by rw [XE,e1,e4]
  have h1:decide ((1:Int)<=(x.stamp:Int))=true:=by simp;omega
  have h2:decide ((x.stamp:Int)<9223372036854775808)=true:=by simp;omega
  rw [e]
  show (idB x.id.ses x.id.seq && decide ((1:Int)<=(x.stamp:Int)) && decide ((x.stamp:Int)<9223372036854775808) && J5 g && XP _ _)=true
  rw [hi,h1,h2,hgc,QeG];rfl
 ·have e:XE g x=⟨3,⟨0,0,[],[]⟩,none,none,0,0,x.id.ses,x.id.seq,g,0,x.yes⟩:=by rw [XE,e1,e2]
  rw [e]
  show (idB x.id.ses x.id.seq && J5 g && XP _ _)=true
  rw [hi,hgc,QeG];rfl
theorem Qfb {h:Int} {os:List Qv} {x:Qv}:x ∈ Y9 h os ↔ x ∈ os/\x.dst=h/\x.kind ≠ 4:=by simp [Y9]
theorem Qnh {g h:Nat} {os:List Qv} (hT:XD c all G g os) (hf:∀ t ∈ all,Qh t=true) (hg:g<4) (hu:OB G u) (hu1:u<=1000) {x:Qv} (hx:x ∈ Y9 h os):QeF c all G h (XE g x):=by
 obtain ⟨h1,h2,h3⟩:=Qfb.1 hx
 rcases hT x h1 with e | ⟨⟨t,t1,t2,t3,t4⟩,e2,e3⟩
 ·exact absurd e h3
 ·have hid:idB x.id.ses x.id.seq=true:=by rw [<- t2];exact (YR (hf t t1)).1
  refine ⟨⟨t,t1,t2,h2 ▸ t3,t4⟩,fun z=>e2 (h2.trans z.symm),Qkg hid hg ?_,?_,rfl,rfl,rfl,rfl,rfl⟩
  ·rcases e3 with ⟨a,b,d⟩ | ⟨a,b,d⟩
   ·have:=hu _ _ _ b
    exact .inl ⟨a,this.1,by omega,d⟩
   ·exact .inr ⟨a,d⟩
  ·rcases e3 with ⟨a,b,d⟩ | ⟨a,b,d⟩
   ·exact .inl ⟨a,b⟩
   ·exact .inr ⟨a,b⟩
theorem J6.step (h:J6 c all k W G) (hf:∀ t ∈ all,Qh t=true) {g:Nat} (hg:g<c.reps.length) {a:Q2} (ha:ZX a=true) (hS:YT c all G G' g (Q5 c g (W.m g) a) (Zs c g (W.m g) a) (2 * d) (k+d)) (hk:k+d<=1000):J6 c all (k+d) (ZN c W g a) G':=by
 have hm:=h.mok g hg
 have hc4:=ZI hm.cf
 have hmE:∀ x,(ZN c W g a).m x=if x=g then Q5 c g (W.m g) a else W.m x:=fun _=>rfl
 have hcE:∀ x,(ZN c W g a).cnt x=if x=g then W.cnt g+1 else W.cnt x:=fun _=>rfl
 have hwE:∀ x,(ZN c W g a).way x=W.way x ++ (Y9 x (Zs c g (W.m g) a)).map (XE g):=fun _=>rfl
 have hrow:∀ x:Nat,x ≠ g->G'.own x=G.own x/\G'.vote x=G.vote x:=fun x hx=>hS.row x (by omega)
 refine { mok:=fun x hx=>?_,loc:=fun x hx=>?_,ob:=hS.ob,ck:=fun x hx=>?_,msg:=fun x hx y hy=>?_,tello:=fun x hx i s e t ht hi y hy hne=>?_,tellv:=fun x hx i s e t ht hi y hy hne=>?_,head:=fun x hx=>?_,len:=fun x=>?_ }
 ·rw [hmE,hcE]
  by_cases e:x=g
  ·rw [if_pos e,if_pos e,e];exact QlA hm a
  ·rw [if_neg e,if_neg e];exact h.mok x hx
 ·rw [hmE]
  by_cases e:x=g
  ·rw [if_pos e,e];exact hS.loc
  ·rw [if_neg e];exact (h.loc x hx).other hS.le (hrow x e).1 (hrow x e).2
 ·rw [hmE]
  by_cases e:x=g
  ·rw [if_pos e];exact hS.ck
  ·rw [if_neg e];exact Nat.le_trans (h.ck x hx) (Nat.le_add_right _ _)
 ·rw [hwE] at hy
  rcases List.mem_append.1 hy with hy | hy
  ·exact (h.msg x hx y hy).le hS.le
  ·obtain ⟨o,ho,rfl⟩:=List.mem_map.1 hy
   exact Qnh hS.told hf (by omega) hS.ob hk ho
 ·rw [hwE]
  by_cases ex:x=g
  ·subst ex
   rcases hS.tello i s e with e | e
   ·obtain ⟨b,hb,r⟩:=h.tello x hx i s e t ht hi y hy hne
    exact ⟨b,List.mem_append_left _ hb,r⟩
   ·obtain ⟨o,ho,r1,r2,r3⟩:=e t ht hi y hy (by omega)
    refine ⟨XE x o,List.mem_append_right _ (List.mem_map_of_mem (Qfb.2 ⟨ho,r2,by omega⟩)),r1,rfl,?_,?_⟩
    ·rw [<- r3];rfl
    ·rw [<- r3];rfl
  ·rw [(hrow x ex).1] at e
   obtain ⟨b,hb,r⟩:=h.tello x hx i s e t ht hi y hy hne
   exact ⟨b,List.mem_append_left _ hb,r⟩
 ·rw [hwE]
  by_cases ex:x=g
  ·subst ex
   rcases hS.tellv i s e with e | e
   ·obtain ⟨b,hb,r⟩:=h.tellv x hx i s e t ht hi y hy hne
    exact ⟨b,List.mem_append_left _ hb,r⟩
   ·obtain ⟨o,ho,r1,r2,r3⟩:=e t ht hi y hy (by omega)
    refine ⟨XE x o,List.mem_append_right _ (List.mem_map_of_mem (Qfb.2 ⟨ho,r2,by omega⟩)),r1,rfl,?_,?_⟩
    ·rw [<- r3];rfl
    ·rw [<- r3];rfl
  ·rw [(hrow x ex).2] at e
   obtain ⟨b,hb,r⟩:=h.tellv x hx i s e t ht hi y hy hne
   exact ⟨b,List.mem_append_left _ hb,r⟩
 ·rw [hmE]
  by_cases e:x=g
  ·rw [if_pos e,e];exact Qkf hm ha
  ·rw [if_neg e];exact h.head x hx
 ·rw [hwE,List.length_append,List.length_map]
  have h1:=h.len x
  have h2:=hS.cnt x
  have h3:=Qdy (all:=all) hS.row c.reps.length
  rw [if_pos hg,if_pos hg] at h3
  omega
theorem QnD (hc : Qn c = true) : J6 c all 0 Yu ⟨fun _ _ => none, fun _ _ => none⟩ :=
  { mok := fun g hg => Qdu hc (by omega) (by omega)
    loc := fun g hg => { q := fun o ho => (by cases ho), w := fun i v e => by simp [Yu, YP, Jf] at e, d := fun i y s e => by simp [Yu, YP, Jf] at e, st := fun i h s e => by simp [Yu, YP, Jf] at e, vo := fun i h y e => by simp [Yu, YP, Jf] at e, ow := fun i s e => (by cases e), vt := fun i y e => by cases e }
    ob := fun h i s e => by cases e
    ck := fun g hg => Nat.le_refl _
    msg := fun h hh a ha => by cases ha
    tello := fun g hg i s e => by cases e
    tellv := fun g hg i s e => by cases e
    head := fun g hg i s e => by cases e
    len := fun h => by
      have := QhN (all := all) (G := ⟨fun _ _ => none, fun _ _ => none⟩) c.reps.length
      show 0 + _ <= _; omega }
theorem Qf4 (hc:Qn c=true) (hf:∀ t ∈ all,Qh t=true) (hj:Jm all) (h:Vo c all k W):k<=1000->∃ G,J6 c all k W G:=by
 induction h with
 | zero=>exact fun _=>⟨_,QnD hc⟩
 | @begin k W h g hg t ht A B ca cb ih =>
  intro hk
  obtain ⟨G,hG⟩:=ih (by omega)
  obtain ⟨G',hS⟩:=QaI (hG.loc g hg) (hG.mok g hg) hj ht (hf t ht) (u:=k+1) (fun x i s e=>by have:=hG.ob x i s e;omega) (by have:=hG.ck g hg;omega) A B ca cb
  exact ⟨G',hG.step hf hg (KG (hf t ht)) hS hk⟩
 | @heard k W h g hg a ha ih =>
  intro hk
  obtain ⟨G,hG⟩:=ih hk
  have hM:=hG.msg g hg a ha
  obtain ⟨G',hS⟩:=VT (hG.loc g hg) (hG.mok g hg) hj hM.f (by rcases hM.x with e | e;exact .inl e.1;exact .inr e.1) hG.ob (hG.ck g hg) (fun e=>by rcases hM.x with q | q;exact q.2;omega) (fun e=>by rcases hM.x with q | q;exact absurd q.1 e;exact q.2)
  exact ⟨G',hG.step (d:=0) hf hg hM.f hS hk⟩
end
section
variable {c:Ql} {all:List Tx} {G G':Gh} {k n u d:Nat} {W:Wd} {m:Qk} {g:Int}
structure QeH (c:Ql) (all:List Tx) (W:Wd):Prop where
 b:∀ g:Nat,g<c.reps.length->∀ t ∈ all,(g:Int) ∈ Qf c t->Jl (W.m g) (Qd t)
 a:∀ g:Nat,g<c.reps.length->∀ a ∈ W.way g,QaJ (W.m g) a
theorem QhO {t:Tx} {s s':Nat} (h:Qcc c G t s) (h':Qcc c G t s'):s=s':=by
 obtain ⟨h1,x,hx,e⟩:=h
 obtain ⟨h1',x',hx',e'⟩:=h'
 obtain ⟨a,ea,la⟩:=h1 x' hx'
 obtain ⟨b,eb,lb⟩:=h1' x hx
 rw [e'] at ea
 rw [e] at eb
 cases ea;cases eb
 omega
theorem Qni {t:Tx} {y y':Bool} (h:Qcd c G t y) (h':Qcd c G t y'):y=y':=by
 cases y <;> cases y'
 ·rfl
 ·obtain ⟨x,hx,e⟩:=h.2 rfl
  rw [h'.1 rfl x hx] at e;cases e
 ·obtain ⟨x,hx,e⟩:=h'.2 rfl
  rw [h.1 rfl x hx] at e;cases e
 ·rfl
theorem V8 {t:Tx} (hc:Qn c=true) {h:Int} (hh:h ∈ Qf c t):∃ x:Nat,h=x/\x<c.reps.length:=by
 have:=(XO (t:=t) hc).2.1 h hh
 exact ⟨h.toNat,by omega,by omega⟩
theorem QlY (hL:JK c all G g m) (hm:Zd c g n m) {i:Qp} (hb:Jl m i):∃ s,G.own g i=some s:=by
 rcases hb with e | e
 ·have hq:Zn m.q i=true:=by rw [hm.has];exact e
  obtain ⟨_,hid,hmem⟩:=Xt hq
  have:=(hL.q _ hmem).2.1
  rw [hid] at this
  exact ⟨_,this⟩
 ·obtain ⟨⟨y,s⟩,e⟩:=Option.isSome_iff_exists.1 e
  obtain ⟨t,ht,hi,hg,hF,_⟩:=hL.d i y s e
  obtain ⟨s',e',_⟩:=hF.1 g hg
  rw [hi] at e'
  exact ⟨s',e'⟩
theorem Qi4 {q:QD} (hq:Jc q) {o o':Qz} (h:o ∈ q.l) (h':o' ∈ q.l) (e:o.id=o'.id):o=o':=by
 obtain ⟨i,hi,rfl⟩:=List.mem_iff_getElem.1 h
 obtain ⟨j,hj,rfl⟩:=List.mem_iff_getElem.1 h'
 have hp:=List.pairwise_iff_getElem.1 hq.nd
 have:i=j:=by
  apply Classical.byContradiction
  intro hne
  rcases Nat.lt_or_gt_of_ne hne with z | z
  ·exact hp i j (by simpa using hi) (by simpa using hj) z (by simpa using e)
  ·exact hp j i (by simpa using hj) (by simpa using hi) z (by simpa using e.symm)
 subst this;rfl
theorem Qf5 (hm:Zd c g n m) {o:Qz} (ho:o ∈ m.q.l):(Qe m.dc o.id).isSome=false:=by
 cases e:(Qe m.dc o.id).isSome with
 | false=>rfl
 | true =>
  have h1:=hm.dis _ e
  have h2:=(hm.ids o.id).2 (List.mem_map_of_mem ho)
  rw [h1] at h2;cases h2
theorem Qiw {q:QD} {o:Qz} (ho:Qaa q o) (hnd:o.gs.Nodup) (hk:∀ h ∈ o.gs,h ≠ q.g->ZG o.known h=true):o.final=true:=by
 rw [ho.fin,decide_eq_true_iff]
 have hr:=ho.gs
 simp only [Yy,Bool.and_eq_true] at hr
 have h1:=XS (l:=q.g :: o.known.map (·.1)) (m:=o.gs) (List.nodup_cons.2 ⟨fun hm=>by
  obtain ⟨x,hx,e⟩:=List.mem_map.1 hm
  exact (ho.kn x hx).1 e,ho.nd⟩) (fun x hx=>by
  rcases List.mem_cons.1 hx with rfl | hx
  ·simpa using hr.2
  ·obtain ⟨y,hy,rfl⟩:=List.mem_map.1 hx
   simpa using (ho.kn y hy).2.1)
 have h2:=XS (l:=o.gs) (m:=q.g :: o.known.map (·.1)) hnd (fun x hx=>by
  by_cases e:x=q.g
  ·rw [e];exact List.mem_cons_self
  ·exact List.mem_cons_of_mem _ (Jj.1 (hk x hx e)))
 simp only [List.length_cons,List.length_map] at h1 h2
 omega
theorem Qch (hW:J6 c all k W G) (hF:QeH c all W) (hc:Qn c=true) {x:Nat} (hx:x<c.reps.length) {o:Qz} (ho:o ∈ (W.m x).q.l):o.final=true:=by
 have hm:=hW.mok x hx
 have hL:=hW.loc x hx
 obtain ⟨⟨t,ht,hi,hgs⟩,_,_⟩:=hL.q o ho
 refine Qiw (hm.q.one o ho) (by rw [hgs];exact Vg hc) fun h hh hne=>?_
 rw [hm.qg] at hne
 rw [hgs] at hh
 obtain ⟨y,rfl,hy⟩:=V8 hc hh
 obtain ⟨s,hs⟩:=QlY (hW.loc y hy) (hW.mok y hy) (hF.b y hy t ht hh)
 have hxg:(x:Int) ∈ Qf c t:=by
  have hr:=(hm.q.one o ho).gs
  simp only [Yy,Bool.and_eq_true] at hr
  have:=hr.2
  rw [hm.qg,hgs] at this
  simpa using this
 obtain ⟨a,ha,a1,a2,a3,a4⟩:=hW.tello y hy _ s hs t ht rfl x hxg (by omega)
 have hid:(⟨a.is,a.iq⟩:Qp)=o.id:=by rw [a3,a4];exact hi
 rcases hF.a x hx a ha with e | ⟨_,o',ho',e1,e2⟩ | ⟨e,_⟩
 ·rw [hid,Qf5 hm ho] at e;cases e
 ·rw [hid] at e1
  have:=Qi4 hm.q ho' ho e1
  subst this
  rw [a2] at e2;exact e2
 ·exact absurd a1 e
theorem Qf6:∀ l:List Qz,l ≠ []->∃ o ∈ l,∀ o' ∈ l,XK o o'=true
 | [],h=>absurd rfl h
 | [o],_=>⟨o,List.mem_cons_self,fun o' h=>by
  rw [List.mem_singleton.1 h]
  have:=U9 o o
  simpa using this⟩
 | a :: b :: l,_=>by
  obtain ⟨o,ho,hl⟩:=Qf6 (b :: l) (by simp)
  rcases Bool.or_eq_true_iff.1 (U9 a o) with e | e
  ·refine ⟨a,List.mem_cons_self,fun o' h=>?_⟩
   rcases List.mem_cons.1 h with rfl | h
   ·have:=U9 o' o'
    simpa using this
   ·exact QbL _ _ _ e (hl o' h)
  ·refine ⟨o,List.mem_cons_of_mem _ ho,fun o' h=>?_⟩
   rcases List.mem_cons.1 h with rfl | h
   ·exact e
   ·exact hl o' h
theorem Qkh (hW:J6 c all k W G) (hF:QeH c all W) (hc:Qn c=true) (hj:Jm all):∀ x:Nat,x<c.reps.length->(W.m x).q.l=[]:=by
 have key:(List.range c.reps.length).flatMap (fun x=>(W.m x).q.l)=[]:=by
  apply Classical.byContradiction
  intro hne
  obtain ⟨o,ho,hleast⟩:=Qf6 _ hne
  obtain ⟨x,hx,ho⟩:=List.mem_flatMap.1 ho
  have hx:=List.mem_range.1 hx
  have hall:∀ y:Nat,y<c.reps.length->∀ o' ∈ (W.m y).q.l,XK o o'=true:=fun y hy o' h'=>hleast o' (List.mem_flatMap.2 ⟨y,List.mem_range.2 hy,h'⟩)
  have hm:=hW.mok x hx
  have hL:=hW.loc x hx
  obtain ⟨⟨t,ht,hi,hgs⟩,_,_⟩:=hL.q o ho
  have hfin:=Qch hW hF hc hx ho
  have hFT:=Qce (hm.q.one o ho) hm.qg (hL.q o ho) hfin hi hgs
  have hhead:∀ y:Nat,y<c.reps.length->∀ o' ∈ (W.m y).q.l,o'.id=o.id->∃ v,Qe (W.m y).wt o.id=some v/\QU v.vs y=true/\Yd v.gs.length v.vs=false:=fun y hy o' h' e'=>by
   have hmy:=hW.mok y hy
   obtain ⟨⟨t',ht',hi',hgs'⟩,_,_⟩:=(hW.loc y hy).q o' h'
   have et:t'=t:=hj t' ht' t ht (by rw [hi',e',hi])
   subst et
   have hF':=Qce (hmy.q.one o' h') hmy.qg ((hW.loc y hy).q o' h') (Qch hW hF hc hy h') hi' hgs'
   have est:=QhO hF' hFT
   cases hl:(W.m y).q.l with
   | nil=>rw [hl] at h';cases h'
   | cons z l =>
    have hz:z ∈ (W.m y).q.l:=by rw [hl];exact List.mem_cons_self
    have hzo:z=o':=by
     apply Qi4 hmy.q hz h'
     rw [hl] at h'
     rcases List.mem_cons.1 h' with e2 | h2
     ·rw [e2]
     ·have h1:XK z o'=true:=by
       have:=hmy.q.so
       rw [hl,List.pairwise_cons] at this
       exact this.1 o' h2
      have h3:XK o z=true:=hall y hy z hz
      have h4:XK o' z=true:=by
       unfold XK X2 at h3 ⊢
       rw [est,e']
       exact h3
      simp only [XK,Bool.not_eq_true'] at h1 h4
      exact (Qcv h4 h1).2
    subst hzo
    have hzf:=Qch hW hF hc hy hz
    have hnx:Z2 (W.m y).q=some (z.id,z.stamp):=by rw [Z2,hl];simp only;rw [if_pos hzf]
    obtain ⟨v,q1,q2,q3⟩:=hW.head y hy _ _ hnx
    rw [e'] at q1
    exact ⟨v,q1,q2,q3⟩
  obtain ⟨v,v1,v2,v3⟩:=hhead x hx o ho rfl
  have hok:=hm.w _ v v1
  have evt:v.t=t:=hj v.t (hL.w _ v v1).1 t ht (by rw [hok.id,hi])
  have hvg:v.gs=Qf c t:=by rw [hok.gs,evt]
  have hxg:(x:Int) ∈ Qf c t:=by have:=hok.me;rw [hvg] at this;simpa using this
  have hvoted:∀ h ∈ v.gs,QU v.vs h=true:=fun h hh=>by
   rw [hvg] at hh
   obtain ⟨y,rfl,hy⟩:=V8 hc hh
   by_cases exy:y=x
   ·rw [exy];exact v2
   ·have hvy:∃ b,G.vote y (Qd t)=some b:=by
     rcases hF.b y hy t ht hh with e | e
     ·have hq:Zn (W.m y).q (Qd t)=true:=by rw [(hW.mok y hy).has];exact e
      obtain ⟨_,hid,hmem⟩:=Xt hq
      obtain ⟨v',w1,w2,_⟩:=hhead y hy _ hmem (by rw [hid,hi])
      obtain ⟨_,hv'⟩:=(hW.loc y hy).w _ v' w1
      have:=hv' _ (U3 ((hW.mok y hy).w _ v' w1).tal w2)
      rw [<- hi] at this
      exact ⟨_,this⟩
     ·obtain ⟨⟨yy,s⟩,e⟩:=Option.isSome_iff_exists.1 e
      obtain ⟨t',ht',hi',_,_,_,h6⟩:=(hW.loc y hy).d _ yy s e
      exact Option.isSome_iff_exists.1 h6
    obtain ⟨b,hb⟩:=hvy
    obtain ⟨a,ha,a1,a2,a3,a4⟩:=hW.tellv y hy _ b hb t ht rfl x hxg (by omega)
    have hid:(⟨a.is,a.iq⟩:Qp)=o.id:=by rw [a3,a4];exact hi
    rcases hF.a x hx a ha with e | ⟨e,_⟩ | ⟨_,v',e1,e2⟩
    ·rw [hid,Qf5 hm ho] at e;cases e
    ·omega
    ·rw [hid,v1] at e1;cases e1
     rw [a2] at e2;exact e2
  have hlen:=hok.tal.all_voted
  rw [List.all_eq_true.2 hvoted] at hlen
  rw [Yd, <- hlen,Bool.or_true] at v3
  cases v3
 intro x hx
 rw [List.flatMap_eq_nil_iff] at key
 exact key x (List.mem_range.2 hx)
theorem Qc2 (hW:J6 c all k W G) (hF:QeH c all W) (hc:Qn c=true) (hj:Jm all) {t:Tx} (ht:t ∈ all) {x:Nat} (hxg:(x:Int) ∈ Qf c t):∃ y s,Qe (W.m x).dc (Qd t)=some (y,s)/\Qcc c G t s/\Qcd c G t y:=by
 obtain ⟨x',e,hx⟩:=V8 hc hxg
 have e:x=x':=by omega
 subst e
 rcases hF.b x hx t ht hxg with e | e
 ·have:=((hW.mok x hx).ids (Qd t)).1 e
  rw [XV,Qkh hW hF hc hj x hx] at this
  cases this
 ·obtain ⟨⟨y,s⟩,e⟩:=Option.isSome_iff_exists.1 e
  obtain ⟨t',ht',hi',_,h4,h5,_⟩:=(hW.loc x hx).d _ y s e
  have et:t'=t:=hj t' ht' t ht hi'
  subst et
  exact ⟨y,s,e,h4,h5⟩
theorem Qof (hW:J6 c all k W G) (hF:QeH c all W) (hc:Qn c=true) (hj:Jm all) {t:Tx} (ht:t ∈ all):∃ y s,∀ x:Nat,(x:Int) ∈ Qf c t->Qe (W.m x).dc (Qd t)=some (y,s):=by
 by_cases h:∃ x:Nat,(x:Int) ∈ Qf c t
 ·obtain ⟨x,hx⟩:=h
  obtain ⟨y,s,e1,e2,e3⟩:=Qc2 hW hF hc hj ht hx
  refine ⟨y,s,fun x' hx'=>?_⟩
  obtain ⟨y',s',e1',e2',e3'⟩:=Qc2 hW hF hc hj ht hx'
  rw [e1',QhO e2' e2,Qni e3' e3]
 ·exact ⟨false,0,fun x hx=>absurd ⟨x,hx⟩ h⟩
end
def fut (n h τ:Nat):Nat:=(2000+n-1-h) / n-(τ+n-1-h) / n
theorem QlZ {n h:Nat} (h1:1<=n) (h4:n<=4) (hh:h<n):368<=fut n h 0:=by
 unfold fut
 rcases (by omega:n=1 \/ n=2 \/ n=3 \/ n=4) with rfl | rfl | rfl | rfl <;> omega
theorem Qf7 {n h τ:Nat} (h1:1<=n) (h4:n<=4) (hh:h<n) (hne:h ≠ τ % n):fut n h (τ+1)=fut n h τ:=by
 unfold fut
 rcases (by omega:n=1 \/ n=2 \/ n=3 \/ n=4) with rfl | rfl | rfl | rfl <;> omega
theorem Qnj {n τ:Nat} (h1:1<=n) (h4:n<=4) (ht:τ<2000):fut n (τ % n) (τ+1)+1=fut n (τ % n) τ:=by
 unfold fut
 rcases (by omega:n=1 \/ n=2 \/ n=3 \/ n=4) with rfl | rfl | rfl | rfl <;> omega
theorem Ql0 {n h τ:Nat} (h1:1<=n) (h4:n<=4) (hh:h<n) (ht:τ<2000):fut n (τ % n) τ<=fut n h (τ+1)+1:=by
 unfold fut
 rcases (by omega:n=1 \/ n=2 \/ n=3 \/ n=4) with rfl | rfl | rfl | rfl <;> omega
theorem Qog {n h:Nat}:fut n h 2000=0:=by unfold fut;omega
section
variable {c:Ql} {all:List Tx} {G G':Gh} {k n u d N N':Nat} {W:Wd} {p:Nat->Nat} {τ:Nat}
theorem QnE (hW:J6 c all k W G) {g h:Nat} (hh:h<c.reps.length) (a:Q2):Yn (W.m h) ((ZN c W g a).m h):=by
 show Yn _ (if h=g then Q5 c g (W.m g) a else W.m h)
 by_cases e:h=g
 ·rw [if_pos e,e];exact Qkd (hW.mok g (e ▸ hh)) a
 ·rw [if_neg e];exact Yn.refl _
theorem Qi5 (hW:J6 c all k W G) {g:Nat} (hg:g<c.reps.length) {a:Q2} (hS:YT c all G G' g (Q5 c g (W.m g) a) (Zs c g (W.m g) a) d u) (h:Nat):((ZN c W g a).way h).length+Ud all G' c.reps.length<=(W.way h).length+Ud all G c.reps.length+d:=by
 show (W.way h ++ (Y9 h (Zs c g (W.m g) a)).map (XE g)).length+_<=_
 rw [List.length_append,List.length_map]
 have h2:=hS.cnt h
 have h3:=Qdy (all:=all) hS.row c.reps.length
 rw [if_pos hg,if_pos hg] at h3
 omega
structure P1 (c:Ql) (all:List Tx) (N:Nat) (W:Wd):Prop where
 ex:∃ k G,k<=N/\Vo c all k W/\J6 c all k W G
 cn:∀ h:Nat,h<c.reps.length->W.cnt h<=N
structure Xp (c:Ql) (all:List Tx):Prop where
 c:Qn c=true
 f:∀ t ∈ all,Qh t=true
 j:Jm all
 l:all.length<=14
theorem P1.more (h:P1 c all N W) (hn:N<=N'):P1 c all N' W:=by
 obtain ⟨k,G,h1,h2⟩:=h.ex
 exact ⟨⟨k,G,Nat.le_trans h1 hn,h2⟩,fun x hx=>Nat.le_trans (h.cn x hx) hn⟩
theorem P1.start (hp:Xp c all):P1 c all 0 Yu:=⟨⟨0,_,Nat.le_refl _,.zero,QnD hp.c⟩,fun _ _=>Nat.le_refl _⟩
theorem Ql1 {g:Nat} {a:Q2} (h:∀ h:Nat,h<c.reps.length->W.cnt h<=N) (hg:g<c.reps.length):∀ h:Nat,h<c.reps.length->(ZN c W g a).cnt h<=N+1:=fun x hx=>by
 show (if x=g then W.cnt g+1 else W.cnt x)<=_
 by_cases e:x=g
 ·rw [if_pos e];have:=h g hg;omega
 ·rw [if_neg e];have:=h x hx;omega
theorem P1.begin (h:P1 c all N W) (hp:Xp c all) {g:Nat} (hg:g<c.reps.length) {t:Tx} (ht:t ∈ all) (A B:Option Addr) (ca cb:Nat) (hN:N<1000):P1 c all (N+1) (ZN c W g (YE t A B ca cb))/\((g:Int) ∈ Qf c t->Jl ((ZN c W g (YE t A B ca cb)).m g) (Qd t))/\∀ x:Nat,x<c.reps.length->Yn (W.m x) ((ZN c W g (YE t A B ca cb)).m x):=by
 obtain ⟨k,G,h1,h2,h3⟩:=h.ex
 have hF:=KG (A:=A) (B:=B) (ca:=ca) (cb:=cb) (hp.f t ht)
 obtain ⟨G',hS⟩:=QaI (h3.loc g hg) (h3.mok g hg) hp.j ht (hp.f t ht) (u:=k+1) (fun x i s e=>by have:=h3.ob x i s e;omega) (by have:=h3.ck g hg;omega) A B ca cb
 refine ⟨⟨⟨k+1,G',by omega,h2.begin hg ht A B ca cb,h3.step hp.f hg hF hS (by omega)⟩,Ql1 h.cn hg⟩,fun hgg=>?_,fun x hx=>QnE h3 hx _⟩
 show Jl (if g=g then Q5 c g (W.m g) (YE t A B ca cb) else _) _
 rw [if_pos rfl,Q5,if_pos hF]
 have hA:Zr c g (W.m g) (YE t A B ca cb)=Zl c g (W.m g) t:=if_pos (show (1:Int)=1 from rfl)
 rw [hA]
 have hb:=Qiv (h3.mok g hg) (hp.f t ht) (by have:=h3.ck g hg;show _<4611686018427387904;omega) hgg
 exact hb.keep (Qbs _ (Qam (h3.mok g hg) (hp.f t ht)))
theorem P1.heard (h:P1 c all N W) (hp:Xp c all) {g:Nat} (hg:g<c.reps.length) {a:Q2} (ha:a ∈ W.way g) (hN:N<1000):P1 c all (N+1) (ZN c W g a):=by
 obtain ⟨k,G,h1,h2,h3⟩:=h.ex
 have hM:=h3.msg g hg a ha
 obtain ⟨G',hS⟩:=VT (h3.loc g hg) (h3.mok g hg) hp.j hM.f (by rcases hM.x with e | e;exact .inl e.1;exact .inr e.1) h3.ob (h3.ck g hg) (fun e=>by rcases hM.x with q | q;exact q.2;omega) (fun e=>by rcases hM.x with q | q;exact absurd q.1 e;exact q.2)
 exact ⟨⟨k,G',by omega,h2.heard hg ha,h3.step (d:=0) hp.f hg hM.f hS (by omega)⟩,Ql1 h.cn hg⟩
structure P3 (c:Ql) (all:List Tx) (τ:Nat) (p:Nat->Nat) (W:Wd):Prop where
 ex:∃ k G,k<=156/\Vo c all k W/\J6 c all k W G/\∀ h:Nat,h<c.reps.length->p h<(W.way h).length->(W.way h).length-p h+Ud all G c.reps.length<=fut c.reps.length h τ
 le:∀ h:Nat,h<c.reps.length->p h<=(W.way h).length
 ab:∀ h:Nat,h<c.reps.length->∀ j,j<p h->∀ a,(W.way h)[j]? = some a->QaJ (W.m h) a
 bg:∀ g:Nat,g<c.reps.length->∀ t ∈ all,(g:Int) ∈ Qf c t->Jl (W.m g) (Qd t)
 cn:∀ h:Nat,h<c.reps.length->W.cnt h<=156+p h
theorem J6.few (h3:J6 c all k W G) (hp:Xp c all) (h1:k<=156) (h:Nat):(W.way h).length+Ud all G c.reps.length<=368:=by
 have:=h3.len h
 have hr:=(ZI hp.c).2
 have:=Nat.mul_le_mul hp.l hr
 omega
theorem P3.few (h:P3 c all τ p W) (hp:Xp c all) (x:Nat):(W.way x).length<=368:=by
 obtain ⟨k,G,h1,_,h3,_⟩:=h.ex
 have:=h3.few hp h1 x
 omega
theorem P1.few (h:P1 c all N W) (hp:Xp c all) (hN:N<=156) (x:Nat):(W.way x).length<=368:=by
 obtain ⟨k,G,h1,_,h3⟩:=h.ex
 have:=h3.few hp (Nat.le_trans h1 hN) x
 omega
theorem P3.start (h:P1 c all 156 W) (hp:Xp c all) (hb:∀ g:Nat,g<c.reps.length->∀ t ∈ all,(g:Int) ∈ Qf c t->Jl (W.m g) (Qd t)):P3 c all 0 (fun _=>0) W:=by
 obtain ⟨k,G,h1,h2,h3⟩:=h.ex
 refine ⟨⟨k,G,h1,h2,h3,fun x hx _=>?_⟩,fun _ _=>Nat.zero_le _,fun _ _ j hj=>absurd hj (Nat.not_lt_zero _),hb,h.cn⟩
 have:=h3.few hp h1 x
 have hr:=ZI hp.c
 have:=QlZ hr.1 hr.2 hx
 omega
theorem P3.idle (h:P3 c all τ p W) (hp:Xp c all) (hi:p (τ % c.reps.length)=(W.way (τ % c.reps.length)).length):P3 c all (τ+1) p W:=by
 obtain ⟨k,G,h1,h2,h3,h4⟩:=h.ex
 have hr:=ZI hp.c
 refine { h with ex:=⟨k,G,h1,h2,h3,fun x hx hl=>?_⟩ }
 rw [Qf7 hr.1 hr.2 hx (fun e=>by rw [e] at hl;omega)]
 exact h4 x hx hl
theorem P3.take (h:P3 c all τ p W) (hp:Xp c all) (ht:τ<2000) {g:Nat} (hgt:g=τ % c.reps.length) (hl:p g<(W.way g).length) {a:Q2} (ha:(W.way g)[p g]? = some a):P3 c all (τ+1) (fun x=>if x=g then p g+1 else p x) (ZN c W g a):=by
 obtain ⟨k,G,h1,h2,h3,h4⟩:=h.ex
 have hr:=ZI hp.c
 have hg:g<c.reps.length:=by rw [hgt];exact Nat.mod_lt _ (by omega)
 have hmem:a ∈ W.way g:=List.mem_of_getElem? ha
 have hM:=h3.msg g hg a hmem
 have hk23:a.k=2 \/ a.k=3:=by rcases hM.x with e | e;exact .inl e.1;exact .inr e.1
 obtain ⟨G',hS⟩:=VT (h3.loc g hg) (h3.mok g hg) hp.j hM.f hk23 h3.ob (h3.ck g hg) (fun e=>by rcases hM.x with q | q;exact q.2;omega) (fun e=>by rcases hM.x with q | q;exact absurd q.1 e;exact q.2)
 have hW':=h3.step (d:=0) hp.f hg hM.f hS (by omega)
 have hkeep:∀ x:Nat,x<c.reps.length->Yn (W.m x) ((ZN c W g a).m x):=fun x hx=>QnE h3 hx a
 have hwE:∀ x,(ZN c W g a).way x=W.way x ++ (Y9 x (Zs c g (W.m g) a)).map (XE g):=fun _=>rfl
 have habs:QaJ ((ZN c W g a).m g) a:=by
  obtain ⟨t,ht1,ht2,ht3,ht4⟩:=hM.t
  show QaJ (if g=g then Q5 c g (W.m g) a else _) a
  have hA:Zr c g (W.m g) a=Zm g (W.m g) a.k ⟨a.is,a.iq⟩ a.g a.st a.y:=by rw [Zr,if_neg (by rcases hk23 with e | e <;> omega),if_pos hk23]
  have hO:=Jk hM.f
  have hst:a.st<18446744073709551616:=by have:=hO.st hk23;omega
  rw [if_pos rfl,Q5,if_pos hM.f,hA]
  refine QaJ.keep ?_ (Qbs _ (Qdv (h3.mok g hg) a.k ⟨a.is,a.iq⟩ a.g hst a.y))
  have:=QlX (h3.loc g hg) (h3.mok g hg) hp.j ht1 (k:=a.k) (h:=a.g) (s:=a.st) (y:=a.y) (a:=a) ht4 hM.ne (h.bg g hg t ht1 ht3) (fun e=>by
   rcases hM.x with q | q
   ·have:=h3.ob _ _ _ q.2
    exact ⟨this.1,by show _<=4611686018427387904;omega⟩
   ·omega) ⟨rfl,by rw [ht2],by rw [ht2],rfl⟩
  rw [ht2] at this
  exact this
 refine ⟨⟨k,G',h1,h2.heard hg hmem,hW',fun x hx hl2=>?_⟩,fun x hx=>?_,fun x hx j hj b hb=>?_,fun x hx t ht1 ht2=>(h.bg x hx t ht1 ht2).keep (hkeep x hx),fun x hx=>?_⟩
 ·have hlen:=Qi5 h3 hg hS x
  have hD:=h4 g hg hl
  have hf1:=Qnj hr.1 hr.2 ht
  rw [<- hgt] at hf1
  by_cases e:x=g
  ·subst e
   simp only [if_pos] at hl2 ⊢
   omega
  ·simp only [if_neg e] at hl2 ⊢
   by_cases hlx:p x<(W.way x).length
   ·have hDx:=h4 x hx hlx
    rw [Qf7 hr.1 hr.2 hx (fun z=>e (z.trans hgt.symm))]
    omega
   ·have:=Ql0 hr.1 hr.2 hx ht
    rw [<- hgt] at this
    have:=h.le x hx
    have hlg:=Qi5 h3 hg hS g
    omega
 ·rw [hwE,List.length_append]
  have:=h.le x hx
  by_cases e:x=g
  ·subst e
   show (if x=x then p x+1 else _)<=_
   rw [if_pos rfl];omega
  ·show (if x=g then _ else p x)<=_
   rw [if_neg e];omega
 ·have hj':j<if x=g then p g+1 else p x:=hj
  rw [hwE] at hb
  have hlx:=h.le x hx
  by_cases e:x=g
  ·subst e
   rw [if_pos rfl] at hj'
   rw [List.getElem?_append_left (by omega)] at hb
   by_cases ej:j=p x
   ·rw [ej,ha] at hb;cases hb;exact habs
   ·exact (h.ab x hx j (by omega) b hb).keep (hkeep x hx)
  ·rw [if_neg e] at hj'
   rw [List.getElem?_append_left (by omega)] at hb
   exact (h.ab x hx j hj' b hb).keep (hkeep x hx)
 ·show (if x=g then W.cnt g+1 else W.cnt x)<=156+if x=g then p g+1 else p x
  by_cases e:x=g
  ·rw [if_pos e,if_pos e];have:=h.cn g hg;omega
  ·rw [if_neg e,if_neg e];exact h.cn x hx
structure UB (c:Ql) (all:List Tx) (W:Wd):Prop where
 ex:∃ k G,k<=156/\Vo c all k W/\J6 c all k W G
 fin:QeH c all W
 cn:∀ h:Nat,h<c.reps.length->W.cnt h<=524
theorem P3.end (h:P3 c all 2000 p W) (hp:Xp c all):UB c all W:=by
 obtain ⟨k,G,h1,h2,h3,h4⟩:=h.ex
 have hall:∀ x:Nat,x<c.reps.length->(W.way x).length<=p x:=fun x hx=>by
  apply Classical.byContradiction
  intro hn
  have:=h4 x hx (by omega)
  rw [Qog] at this
  omega
 refine ⟨⟨k,G,h1,h2,h3⟩,⟨h.bg,fun x hx a ha=>?_⟩,fun x hx=>?_⟩
 ·obtain ⟨j,hj,rfl⟩:=List.mem_iff_getElem.1 ha
  exact h.ab x hx j (by have:=hall x hx;omega) _ (List.getElem?_eq_getElem hj)
 ·have:=h.cn x hx
  have:=h.le x hx
  have:=h.few hp x
  omega
theorem UB.agree (h:UB c all W) (hp:Xp c all) {t:Tx} (ht:t ∈ all):∃ y s,∀ x:Nat,(x:Int) ∈ Qf c t->Qe (W.m x).dc (Qd t)=some (y,s):=by
 obtain ⟨k,G,_,_,h3⟩:=h.ex
 exact Qof h3 h.fin hp.c hp.j ht
end
end Go.Proofs.YtcldpmkhpmlcbaaGreatDoor
