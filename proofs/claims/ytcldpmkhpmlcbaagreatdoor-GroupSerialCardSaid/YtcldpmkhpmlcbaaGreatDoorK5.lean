/- part -/
import Derived.Test.YtcldpmkhpmlcbaaGreatDoorK1
set_option linter.unusedVariables false
set_option linter.unusedSimpArgs false
namespace Go.Proofs.YtcldpmkhpmlcbaaGreatDoor
def Xx (a b:Nat × Qp):Prop:=a.1<b.1 \/ (a.1=b.1/\YG a.2 b.2=true)
theorem Qcn {a b d:Nat × Qp} (h:Xx a b) (h':Xx b d):Xx a d:=by
 rcases h with h | ⟨e,h⟩ <;> rcases h' with h' | ⟨e',h'⟩
 ·left;omega
 ·left;omega
 ·left;omega
 ·right;exact ⟨by omega,QcL h h'⟩
theorem Qmg {a:Nat × Qp} {s s':Nat} {i:Qp} (h:Xx a (s,i)) (hs:s<=s'):Xx a (s',i):=by
 rcases h with h | ⟨e,h⟩
 ·left;exact Nat.lt_of_lt_of_le h hs
 ·rcases Nat.lt_or_ge a.1 s' with q | q
  ·left;exact q
  ·right
   have e:a.1=s:=e
   exact ⟨by show a.1=s';omega,h⟩
theorem Qff {a b:Qz}:X2 a b=true ↔ Xx (a.stamp,a.id) (b.stamp,b.id):=Vw
structure Vv (q q':QD):Prop where
 cl:q.clock<=q'.clock
 el:∀ o' ∈ q'.l,(∃ o ∈ q.l,o.id=o'.id/\o.stamp<=o'.stamp) \/ q.clock<o'.stamp
 hd:∀ i s,Z2 q=some (i,s)->Z2 q'=some (i,s)
theorem Vv.refl (q:QD):Vv q q:=⟨Nat.le_refl _,fun o h=>.inl ⟨o,h,rfl,Nat.le_refl _⟩,fun _ _ e=>e⟩
theorem Vv.trans {a b d:QD} (h:Vv a b) (h':Vv b d):Vv a d :=
 ⟨Nat.le_trans h.cl h'.cl,fun o ho=>by
  rcases h'.el o ho with ⟨o1,h1,e1,s1⟩ | h1
  ·rcases h.el o1 h1 with ⟨o2,h2,e2,s2⟩ | h2
   ·exact .inl ⟨o2,h2,e2.trans e1,Nat.le_trans s2 s1⟩
   ·exact .inr (Nat.lt_of_lt_of_le h2 s1)
  ·exact .inr (Nat.lt_of_le_of_lt h.cl h1),fun i s e=>h'.hd i s (h.hd i s e)⟩
theorem Qgb {L:List Qz} {z:Qz} (hz:z ∈ L) (hle:∀ o ∈ L,o=z \/ X2 z o=true):∃ l',Je L=z :: l':=by
 have hp:=Zz L
 have hs:=K6 L
 have hz':z ∈ Je L:=hp.mem_iff.2 hz
 cases e:Je L with
 | nil=>rw [e] at hz';cases hz'
 | cons y l' =>
  rw [e] at hz' hs
  rcases List.mem_cons.1 hz' with rfl | h
  ·exact ⟨l',rfl⟩
  ·have hy:y ∈ L:=hp.mem_iff.1 (by rw [e];exact List.mem_cons_self)
   rcases hle y hy with rfl | q
   ·exact ⟨l',rfl⟩
   ·have:=(List.pairwise_cons.1 hs).1 z h
    rw [XK,q] at this
    cases this
theorem Qfg {q:QD} (hq:Jc q) {z:Qz} {l:List Qz} (e:q.l=z :: l):∀ o ∈ l,X2 z o=true:=fun o ho=>by
 have hs:=hq.so
 have hn:=hq.nd
 rw [e] at hs hn
 have h1:=(List.pairwise_cons.1 hs).1 o ho
 have h2:z.id ≠ o.id:=by
  rw [List.map_cons,List.nodup_cons] at hn
  exact fun q=>hn.1 (by rw [q];exact List.mem_map_of_mem ho)
 cases h3:X2 z o with
 | true=>rfl
 | false =>
  simp only [XK,Bool.not_eq_true'] at h1
  exact absurd (Qcv h3 h1).2 h2
theorem Qco {q:QD} {i:Qp} {s:Nat} (h:Z2 q=some (i,s)):∃ z l,q.l=z :: l/\z.final=true/\z.id=i/\z.stamp=s:=by
 unfold Z2 at h
 split at h
 ·cases h
 ·next z l e =>
  split at h
  ·next hf=>cases h;exact ⟨z,l,e,hf,rfl,rfl⟩
  ·cases h
theorem Qi7 {q:QD} {z:Qz} {l:List Qz} (e:q.l=z :: l) (hf:z.final=true):Z2 q=some (z.id,z.stamp):=by
 rw [Z2,e];simp only;rw [if_pos hf]
theorem Qmh {q:QD} (hq:Jc q) (i:Qp) (gs:List Int):Vv q (QG q i gs):=by
 rw [QG]
 split
 ·have hst:q.clock<(Ks q i gs).stamp:=Nat.lt_of_lt_of_le (Nat.lt_succ_self _) (QbN (Ks q i gs))
  refine ⟨Nat.le_succ _,fun o ho=>?_,fun j s e=>?_⟩
  ·rcases List.mem_append.1 ((Zz _).mem_iff.1 ho) with h | h
   ·exact .inl ⟨o,h,rfl,Nat.le_refl _⟩
   ·rw [List.mem_singleton.1 h];exact .inr hst
  ·obtain ⟨z,l,el,hf,rfl,rfl⟩:=Qco e
   have hz:z ∈ q.l:=by rw [el];exact List.mem_cons_self
   obtain ⟨l',e'⟩:=Qgb (L:=q.l ++ [Ks q i gs]) (z:=z) (List.mem_append_left _ hz) (fun o ho=>by
    rcases List.mem_append.1 ho with h | h
    ·rw [el] at h
     rcases List.mem_cons.1 h with rfl | h
     ·exact .inl rfl
     ·exact .inr (Qfg hq el o h)
    ·rw [List.mem_singleton.1 h]
     refine .inr (Vw.2 (.inl ?_))
     have:=(hq.one z hz).top hf
     omega)
   exact Qi7 e' hf
 ·exact Vv.refl q
theorem Qkl {q:QD} {o:Qz} (ho:Qaa q o) (hf:o.final=true) {g:Int} (hg:o.gs.contains g=true) (hne:g ≠ q.g):ZG o.known g=true:=by
 cases hk:ZG o.known g with
 | true=>rfl
 | false =>
  exfalso
  have hr:=ho.gs
  simp only [Yy,Bool.and_eq_true] at hr
  have hn:g ∉ o.known.map (·.1):=fun hm=>by rw [Jj.2 hm] at hk;cases hk
  have h1:=XS (l:=q.g :: g :: o.known.map (·.1)) (m:=o.gs) (List.nodup_cons.2 ⟨fun hm=>by
   rcases List.mem_cons.1 hm with e | hm
   ·exact hne e.symm
   ·obtain ⟨x,hx,e⟩:=List.mem_map.1 hm
    exact (ho.kn x hx).1 e,List.nodup_cons.2 ⟨hn,ho.nd⟩⟩) (fun x hx=>by
   rcases List.mem_cons.1 hx with rfl | hx
   ·simpa using hr.2
   ·rcases List.mem_cons.1 hx with rfl | hx
    ·simpa using hg
    ·obtain ⟨y,hy,rfl⟩:=List.mem_map.1 hx
     simpa using (ho.kn y hy).2.1)
  have h2:=ho.fin
  rw [hf] at h2
  have h2:=of_decide_eq_true h2.symm
  simp only [List.length_cons,List.length_map] at h1
  omega
theorem Qgc {q:QD} (hq:Jc q) (i:Qp) (g:Int) (s:Nat):Vv q (QZ q i g s):=by
 rw [QZ]
 split
 ·rename_i e
  unfold ZQ at e
  split at e;· cases e
  rename_i e1
  split at e;· cases e
  rename_i e2
  split at e;· cases e
  rename_i e3
  obtain ⟨hk,hid,hm⟩:=Xt (by simpa using e1)
  have hone:=hq.one _ hm
  simp only [Bool.or_eq_true,decide_eq_true_eq,Bool.not_eq_true',not_or] at e2
  obtain ⟨⟨⟨g1,g2⟩,g3⟩,g4⟩:=e2
  have hnf:(Zo q i).final=false:=by
   cases hf:(Zo q i).final with
   | false=>rfl
   | true=>exact absurd (Qkl hone hf (by simpa using g2) g1) e3
  have hup:(Zo q i).stamp<=(QP (Zo q i) g s).stamp:=by
   have:(Zo q i).stamp=(Zo q i).own:=by unfold Qz.stamp;rw [hnf];rfl
   rw [this]
   exact QbN (QP (Zo q i) g s)
  have hel:∀ o ∈ q.l.set (ZA q.l i) (QP (Zo q i) g s),o=QP (Zo q i) g s \/ o ∈ q.l:=fun o ho=>by
   rcases List.mem_or_eq_of_mem_set ho with h | h
   ·exact .inr h
   ·exact .inl h
  refine ⟨?_,fun o ho=>?_,fun j u e=>?_⟩
  ·show q.clock<=if _ then _ else _
   split
   ·exact Nat.le_max_left _ _
   ·exact Nat.le_refl _
  ·rcases hel o ((Zz _).mem_iff.1 ho) with rfl | h
   ·exact .inl ⟨Zo q i,hm,rfl,hup⟩
   ·exact .inl ⟨o,h,rfl,Nat.le_refl _⟩
  ·obtain ⟨z,l,el,hf,rfl,rfl⟩:=Qco e
   have hz:z ∈ q.l:=by rw [el];exact List.mem_cons_self
   have hzk:Zo q i ≠ z:=fun q'=>by rw [q',hf] at hnf;cases hnf
   have hlt:∀ o ∈ q.l,o=z \/ X2 z o=true:=fun o ho=>by
    rw [el] at ho
    rcases List.mem_cons.1 ho with rfl | h
    ·exact .inl rfl
    ·exact .inr (Qfg hq el o h)
   have hzs:z ∈ q.l.set (ZA q.l i) (QP (Zo q i) g s):=by
    cases ek:ZA q.l i with
    | zero =>
     exfalso
     apply hzk
     rw [Zo,ek,el];rfl
    | succ k=>rw [el,List.set_cons_succ];exact List.mem_cons_self
   obtain ⟨l',e'⟩:=Qgb hzs (fun o ho=>by
    rcases hel o ho with rfl | h
    ·rcases hlt _ hm with q' | q'
     ·exact absurd q' hzk
     ·have q2:Xx (z.stamp,z.id) ((Zo q i).stamp,(Zo q i).id):=Qff.1 q'
      have q3:Xx (z.stamp,z.id) ((QP (Zo q i) g s).stamp,(Zo q i).id):=Qmg q2 hup
      exact .inr (Qff.2 q3)
    ·exact hlt o h)
   exact Qi7 e' hf
 ·exact Vv.refl q
theorem Qgd {i:Qp}:∀ (gs:List Int) {q:QD} {st:List (ZO × Nat)},Jc q->Vv q (gs.foldl (Qx i) (q,st)).1/\Jc (gs.foldl (Qx i) (q,st)).1
 | [],q,st,hq=>⟨Vv.refl q,hq⟩
 | h :: gs,q,st,hq=>by
  have h1:Vv q (Qx i (q,st) h).1/\Jc (Qx i (q,st) h).1:=by
   unfold Qx
   cases Qe st (i,h) with
   | none=>exact ⟨Vv.refl q,hq⟩
   | some s=>exact ⟨Qgc hq i h s,Qa5 hq i h s⟩
  have h2:=Qgd (i:=i) gs (q:=(Qx i (q,st) h).1) (st:=(Qx i (q,st) h).2) h1.2
  exact ⟨h1.1.trans h2.1,h2.2⟩
structure KS where
 t:Tx
 s:Nat
 y:Bool
def KS.key (x:KS):Nat × Qp:=(x.s,Qd x.t)
def K5 (s:QR) (ws:List Wr):QR :=
 if 8<s.last+1/\(QH s (s.last+1) ws).low<s.last+1-8 then Zv (QH s (s.last+1) ws) (s.last+1-8) else QH s (s.last+1) ws
def KJ (c:Ql) (g:Int) (s:QR) (x:KS):QR:=if x.y && !(Qr c x.t g).isEmpty then K5 s (Qr c x.t g) else s
def Qbu (c:Ql) (g:Int) (H:List KS):QR:=H.foldl (KJ c g) Kt
theorem Qkm (c:Ql) (g:Int) (H:List KS) (x:KS):Qbu c g (H ++ [x])=KJ c g (Qbu c g H) x:=by simp [Qbu]
structure XX (c:Ql) (all:List Tx) (g:Int) (m:Qk) (H:List KS):Prop where
 d1:∀ x ∈ H,Qe m.dc (Qd x.t)=some (x.y,x.s)
 d2:∀ i v,Qe m.dc i=some v->∃ x ∈ H,Qd x.t=i
 mem:∀ x ∈ H,x.t ∈ all/\g ∈ Qf c x.t
 wt:∀ i v,Qe m.wt i=some v->v.t ∈ all
 vo:∀ i,Qe m.vo (i,g)=none
 asc:H.Pairwise fun x y=>Xx x.key y.key
 low:∀ x ∈ H,x.s<=m.q.clock/\∀ o ∈ m.q.l,Xx x.key (o.stamp,o.id)
 st:m.s=Qbu c g H
 vote:∀ H1 x H2,H=H1 ++ x :: H2->x.y=true->Yj (Qbu c g H1) (Q4 c x.t g)=true
 hv:∀ i v,Qe m.wt i=some v->QU v.vs g=true->(∃ s,Z2 m.q=some (i,s))/\Zh v.vs g=Yj m.s (Q4 c v.t g)
section
variable {c:Ql} {all:List Tx} {g:Int} {n:Nat} {m m':Qk} {H:List KS}
theorem Qpb : XX c all g (YP g) [] :=
  { d1 := fun _ h => (by cases h), d2 := fun i v h => (by cases h), mem := fun _ h => (by cases h), wt := fun i v h => (by cases h), vo := fun _ => rfl, asc := List.Pairwise.nil, low := fun _ h => (by cases h), st := rfl
    vote := fun H1 x H2 e => (by simp at e), hv := fun i v h => (by cases h) }
theorem XX.up (h : XX c all g m H) (hq : Vv m.q m'.q) (hd : m'.dc = m.dc) (hs : m'.s = m.s) (hw : ∀ i v, Qe m'.wt i = some v -> v.t ∈ all) (hvo : ∀ i, Qe m'.vo (i, g) = none)
    (hv : ∀ i v, Qe m'.wt i = some v -> QU v.vs g = true -> ∃ v', Qe m.wt i = some v' /\ QU v'.vs g = true /\ Zh v.vs g = Zh v'.vs g /\ v'.t = v.t) : XX c all g m' H :=
  { d1 := fun x hx => by rw [hd]; exact h.d1 x hx, d2 := fun i v e => by rw [hd] at e; exact h.d2 i v e, mem := h.mem, wt := hw, vo := hvo, asc := h.asc
    low := fun x hx => by
      obtain ⟨l1, l2⟩ := h.low x hx
      refine ⟨Nat.le_trans l1 hq.cl, fun o ho => ?_⟩
      rcases hq.el o ho with ⟨o1, h1, e1, s1⟩ | h1
      · rw [<- e1]; exact Qmg (l2 o1 h1) s1
      · exact .inl (Nat.lt_of_le_of_lt l1 h1)
    st := hs.trans h.st, vote := h.vote
    hv := fun i v e hv' => by
      obtain ⟨v', e1, e2, e3, e4⟩ := hv i v e hv'
      obtain ⟨⟨s, h1⟩, h2⟩ := h.hv i v' e1 e2
      exact ⟨⟨s, hq.hd i s h1⟩, by rw [e3, h2, hs, e4]⟩ }
theorem QeK {gs:List Int} {i:Qp} {vo:List (ZO × Bool)}:∀ (l:List Int) (vs:List (Int × Bool)) (vo:List (ZO × Bool)),(∀ j,Qe vo (j,g)=none)->QU vs g=false->QU (l.foldl (Q1 gs i) (vs,vo)).1 g=false/\∀ j,Qe (l.foldl (Q1 gs i) (vs,vo)).2 (j,g)=none
 | [],vs,vo,h,hv=>⟨hv,h⟩
 | x :: l,vs,vo,h,hv=>by
  have h2:∀ j,Qe (Q1 gs i (vs,vo) x).2 (j,g)=none:=fun j=>by
   show Qe (Zc vo (i,x)) (j,g)=none
   rw [ZF]
   split
   ·rfl
   ·exact h j
  have h1:QU (Q1 gs i (vs,vo) x).1 g=false:=by
   show QU (match Qe vo (i,x) with | some y=>ZS gs vs x y | none=>vs) g=false
   split
   ·next y e =>
    by_cases q:x=g
    ·subst q;rw [h i] at e;cases e
    ·rw [ZS]
     split
     ·rw [KX,hv];simpa using q
     ·exact hv
   ·exact hv
  exact QeK (vo:=vo) l _ _ h2 h1
theorem Qkn {gs:List Int} {vs:List (Int × Bool)} {x:Int} {y:Bool} (hne:x ≠ g):QU (ZS gs vs x y) g=QU vs g/\Zh (ZS gs vs x y) g=Zh vs g:=by
 rw [ZS]
 split
 ·refine ⟨?_,QcK y hne⟩
  rw [KX]
  have:(x == g)=false:=by simpa using hne
  rw [this,Bool.or_false]
 ·exact ⟨rfl,rfl⟩
theorem Qko (hm:Zd c g n m) (h:XX c all g m H) {t:Tx} (ht:t ∈ all):XX c all g (Zl c g m t) H:=by
 unfold Zl
 split
 ·have hvf:=QeK (gs:=Qf c t) (i:=Qd t) (vo:=m.vo) (Qf c t) [] m.vo h.vo rfl
  refine h.up ((Qmh hm.q _ _).trans (Qgd (i:=Qd t) (Qf c t) (Qc9 hm.q _ _)).1) rfl rfl (fun i v e=>?_) hvf.2 (fun i v e hv=>?_)
  ·have e':Qe (Qs m.wt (Qd t) _) i=some v:=e
   rw [Qw] at e'
   split at e'
   ·cases e';exact ht
   ·exact h.wt i v e'
  ·have e':Qe (Qs m.wt (Qd t) _) i=some v:=e
   rw [Qw] at e'
   split at e'
   ·cases e'
    have hv':QU ((Qf c t).foldl (Q1 (Qf c t) (Qd t)) ([],m.vo)).1 g=true:=hv
    rw [hvf.1] at hv';cases hv'
   ·exact ⟨v,e',hv,rfl,rfl⟩
 ·exact h
theorem Qkp (hm:Zd c g n m) (h:XX c all g m H) (k:Int) (i:Qp) (x:Int) (s:Nat) (y:Bool):XX c all g (Zm g m k i x s y) H:=by
 unfold Zm
 split
 ·exact h
 ·rename_i h0
  have hne:x ≠ g:=fun e=>h0 (by rw [e];simp)
  split
  ·rename_i hw
   split
   ·exact h.up (Qgc hm.q i x s) rfl rfl h.wt h.vo (fun j v e hv=>⟨v,e,hv,rfl,rfl⟩)
   ·obtain ⟨v0,hv0⟩:=Option.isSome_iff_exists.1 hw
    have e0:ZD m i=v0:=by rw [ZD,hv0];rfl
    rw [e0]
    refine h.up (Vv.refl _) rfl rfl (fun j v e=>?_) h.vo (fun j v e hv=>?_)
    ·have e':Qe (Qs m.wt i _) j=some v:=e
     rw [Qw] at e'
     split at e'
     ·cases e';exact h.wt i v0 hv0
     ·exact h.wt j v e'
    ·have e':Qe (Qs m.wt i _) j=some v:=e
     rw [Qw] at e'
     split at e'
     ·next q =>
      cases e'
      obtain ⟨p1,p2⟩:=Qkn (gs:=v0.gs) (vs:=v0.vs) (y:=y) hne
      exact ⟨v0,by rw [q];exact hv0,by rw [<- p1];exact hv,p2,rfl⟩
     ·exact ⟨v,e',hv,rfl,rfl⟩
  ·split
   ·split
    ·exact h
    ·exact h.up (Vv.refl _) rfl rfl h.wt h.vo (fun j v e hv=>⟨v,e,hv,rfl,rfl⟩)
   ·split
    ·exact h
    ·refine h.up (Vv.refl _) rfl rfl h.wt (fun j=>?_) (fun j v e hv=>⟨v,e,hv,rfl,rfl⟩)
     show Qe (Qs m.vo (i,x) y) (j,g)=none
     rw [Qw,if_neg (fun q=>hne (by injection q with _ q2;exact q2.symm))]
     exact h.vo j
theorem Qge (hm:Zd c g n m) (h:XX c all g m H) {i:Qp} {final:Nat} (hn:Z2 m.q=some (i,final)) {v:Zj} (hv:Qe m.wt i=some v) (hok:WOK c g i v) {yes:Bool} (hy:yes=true->Yj m.s (Q4 c v.t g)=true)
  (e1:m'.q=YV m.q) (e2:m'.wt=Zc m.wt i) (e3:m'.dc=Qs m.dc i (yes,final)) (e4:m'.vo=m.vo) (e5:m'.s=KJ c g m.s ⟨v.t,final,yes⟩):XX c all g m' (H ++ [⟨v.t,final,yes⟩]):=by
 have hnd:Qe m.dc i=none:=by
  cases e:Qe m.dc i with
  | none=>rfl
  | some d=>have:=hm.dis i (by rw [e];rfl);rw [this] at hv;cases hv
 have hH:∀ x ∈ H,Qd x.t ≠ i:=fun x hx e=>by
  have:=h.d1 x hx
  rw [e,hnd] at this;cases this
 obtain ⟨z,l,el,hf,rfl,rfl⟩:=Qco hn
 have hz:z ∈ m.q.l:=by rw [el];exact List.mem_cons_self
 have hdl:m'.q.l=l:=by rw [e1,YV,el];rfl
 have hgt:=Qfg hm.q el
 refine { d1:=fun x hx=>?_,d2:=fun j d e=>?_,mem:=fun x hx=>?_,wt:=fun j v' e=>?_,vo:=fun j=>by rw [e4];exact h.vo j,asc:=?_,low:=fun x hx=>?_,st:=?_,vote:=fun H1 x H2 e hxy=>?_,hv:=fun j v' e hv'=>?_ }
 ·rw [e3,Qw]
  rcases List.mem_append.1 hx with hx | hx
  ·rw [if_neg (hH x hx)];exact h.d1 x hx
  ·rw [List.mem_singleton.1 hx]
   exact if_pos hok.id
 ·rw [e3,Qw] at e
  split at e
  ·next q=>exact ⟨_,List.mem_append_right _ (List.mem_singleton.2 rfl),by rw [q];exact hok.id⟩
  ·obtain ⟨x,hx,ex⟩:=h.d2 j d e
   exact ⟨x,List.mem_append_left _ hx,ex⟩
 ·rcases List.mem_append.1 hx with hx | hx
  ·exact h.mem x hx
  ·rw [List.mem_singleton.1 hx]
   refine ⟨h.wt _ v hv,?_⟩
   have:=hok.me
   rw [hok.gs] at this
   simpa using this
 ·rw [e2,ZF] at e
  split at e
  ·cases e
  ·exact h.wt j v' e
 ·rw [List.pairwise_append]
  refine ⟨h.asc,List.pairwise_singleton _ _,fun x hx y hy=>?_⟩
  rw [List.mem_singleton.1 hy]
  have:=(h.low x hx).2 z hz
  show Xx x.key (z.stamp,Qd v.t)
  rw [hok.id];exact this
 ·have hcl:m'.q.clock=m.q.clock:=by rw [e1];rfl
  rw [hcl,hdl]
  rcases List.mem_append.1 hx with hx | hx
  ·exact ⟨(h.low x hx).1,fun o ho=>(h.low x hx).2 o (by rw [el];exact List.mem_cons_of_mem _ ho)⟩
  ·rw [List.mem_singleton.1 hx]
   refine ⟨(hm.q.one z hz).top hf,fun o ho=>?_⟩
   show Xx (z.stamp,Qd v.t) (o.stamp,o.id)
   rw [hok.id];exact Qff.1 (hgt o ho)
 ·rw [e5,Qkm,h.st]
 ·rcases List.eq_nil_or_concat H2 with rfl | ⟨H3,w,rfl⟩
  ·have e':H ++ [(⟨v.t,z.stamp,yes⟩:KS)]=H1 ++ [x]:=e
   obtain ⟨q1,q2⟩:=List.append_inj' e' rfl
   injection q2 with q2
   subst q1 q2
   rw [<- h.st];exact hy hxy
  ·rw [List.concat_eq_append, <- List.cons_append, <- List.append_assoc] at e
   obtain ⟨q1,q2⟩:=List.append_inj' e rfl
   exact h.vote H1 x H3 q1 hxy
 ·rw [e2,ZF] at e
  split at e
  ·cases e
  ·next q =>
   obtain ⟨⟨s,h1⟩,_⟩:=h.hv j v' e hv'
   rw [hn] at h1
   cases h1
   exact absurd rfl q
theorem Qmi (h:XX c all g m H) {i:Qp} {v:Zj} (hv:Qe m.wt i=some v) (hok:WOK c g i v):QU (QF c g m v) g=true/\Zh (QF c g m v) g=Yj m.s (Q4 c v.t g):=by
 rw [QF]
 cases e:QU v.vs g with
 | true=>rw [if_pos rfl];exact ⟨e,(h.hv i v hv e).2⟩
 | false =>
  have hp:X3 v.gs v.vs g=true:=by rw [X3,hok.me,e];rfl
  rw [if_neg (by decide),ZS,if_pos hp]
  refine ⟨?_,Qdg _ e⟩
  rw [KX];simp
theorem Qmj {gs:List Int} {vs:List (Int × Bool)} {n:Nat} (ht:Yh gs vs) (hh:QU vs g=true) (hy:Zk n vs=true):Zh vs g=true:=by
 have hm:=U3 ht hh
 simp only [Zk,Bool.and_eq_true,Bool.not_eq_true'] at hy
 have h1:=hy.1
 rw [VM,List.any_eq_false] at h1
 simpa using h1 _ hm
theorem Qkq (m:Qk) (final:Nat) (ws:List Wr):(Zq m final ws).s=K5 m.s ws/\(Zq m final ws).q=m.q/\(Zq m final ws).wt=m.wt/\(Zq m final ws).dc=m.dc/\(Zq m final ws).vo=m.vo:=by
 unfold Zq K5
 simp only
 split <;> exact ⟨rfl,rfl,rfl,rfl,rfl⟩
theorem Qmk (hm:Zd c g n m) (h:XX c all g m H):∃ H',XX c all g (ZZ c g m).2.1 H':=by
 unfold ZZ
 split
 ·exact ⟨H,h⟩
 ·rename_i i final hn
  obtain ⟨v,hv,hw,hok⟩:=Y3 hm hn
  obtain ⟨ov1,ov2⟩:=Qmi h hv hok
  simp only
  rw [hw]
  split
  ·have hy:Zk v.gs.length (QF c g m v)=true->Yj m.s (Q4 c v.t g)=true:=fun e=>by
    rw [<- ov2];exact Qmj (Qan hm hok) ov1 e
   refine ⟨H ++ [⟨v.t,final,Zk v.gs.length (QF c g m v)⟩],?_⟩
   split
   ·next e =>
    obtain ⟨w1,w2,w3,w4,w5⟩:=Qkq (ZY m i (Zk v.gs.length (QF c g m v)) final) final (Qr c v.t g)
    refine Qge hm h hn hv hok hy w2 w3 w4 w5 ?_
    rw [w1,KJ,if_pos e];rfl
   ·next e =>
    refine Qge hm h hn hv hok hy rfl rfl rfl rfl ?_
    rw [KJ,if_neg e];rfl
  ·refine ⟨H,{ h with wt:=fun j v' e=>?_,hv:=fun j v' e hv'=>?_ }⟩
   ·have e':Qe (Qs m.wt i _) j=some v':=e
    rw [Qw] at e'
    split at e'
    ·cases e';exact h.wt i v hv
    ·exact h.wt j v' e'
   ·have e':Qe (Qs m.wt i _) j=some v':=e
    rw [Qw] at e'
    split at e'
    ·next q=>cases e';rw [q];exact ⟨⟨final,hn⟩,ov2⟩
    ·exact h.hv j v' e' hv'
theorem QhT:∀ (k:Nat) {m:Qk} {H:List KS},Zd c g n m->XX c all g m H->∃ H',XX c all g (ZU c g k m).1 H'
 | 0,m,H,_,h=>⟨H,h⟩
 | k+1,m,H,hm,h=>by
  unfold ZU
  simp only
  obtain ⟨H1,h1⟩:=Qmk hm h
  split
  ·exact QhT k (XW hm).1 h1
  ·exact ⟨H1,h1⟩
theorem QeL (hm:Zd c g n m) (h:XX c all g m H) {a:Q2} (ha:a.k=1->a.t ∈ all):∃ H',XX c all g (Q5 c g m a) H':=by
 unfold Q5
 split
 ·next hf =>
  have hO:=Jk hf
  refine QhT _ (K3 hm hO) (H:=H) ?_
  unfold Zr
  split
  ·next e=>exact Qko hm h (ha e)
  ·split
   ·exact Qkp hm h _ _ _ _ _
   ·exact h
 ·exact ⟨H,h⟩
end
theorem Qkr {c:Ql} {all:List Tx} (hc:Qn c=true) (hf:∀ t ∈ all,Qh t=true) (hj:Jm all) {k:Nat} {W:Wd} (h:Vo c all k W):k<=1000->∀ g:Nat,g<c.reps.length->∃ H,XX c all g (W.m g) H:=by
 induction h with
 | zero=>exact fun _ g _=>⟨[],Qpb⟩
 | @begin k W h g hg t ht A B ca cb ih =>
  intro hk x hx
  obtain ⟨G,hW⟩:=Qf4 hc hf hj h (by omega)
  show ∃ H,XX c all x (if x=g then Q5 c g (W.m g) (YE t A B ca cb) else W.m x) H
  by_cases e:x=g
  ·subst e
   rw [if_pos rfl]
   obtain ⟨H,hH⟩:=ih (by omega) x hx
   exact QeL (hW.mok x hx) hH (fun _=>ht)
  ·rw [if_neg e];exact ih (by omega) x hx
 | @heard k W h g hg a ha ih =>
  intro hk x hx
  obtain ⟨G,hW⟩:=Qf4 hc hf hj h (by omega)
  show ∃ H,XX c all x (if x=g then Q5 c g (W.m g) a else W.m x) H
  by_cases e:x=g
  ·subst e
   rw [if_pos rfl]
   obtain ⟨H,hH⟩:=ih hk x hx
   have hM:=hW.msg x hx a ha
   exact QeL (hW.mok x hx) hH (fun e=>by rcases hM.x with q | q <;> omega)
  ·rw [if_neg e];exact ih hk x hx
theorem Qml {m:KV} {low:Nat} (hc:∀ p ∈ m,Zp p.2 low=p.2) (hn:∀ p ∈ m,p.2 ≠ []):Xk m low=m:=by
 induction m with
 | nil=>rfl
 | cons p m ih =>
  have h1:=hc p List.mem_cons_self
  have h2:=hn p List.mem_cons_self
  rw [Xk,h1,if_neg (by simpa using h2),ih (fun q hq=>hc q (List.mem_cons_of_mem _ hq)) (fun q hq=>hn q (List.mem_cons_of_mem _ hq))]
theorem Qgf {s:QR} (h:Yw s) {v:Nat} (hv:v<=s.low):Zv s v=s:=by
 unfold Zv
 split
 ·next e =>
  simp only [Xy,Bool.and_eq_true,decide_eq_true_eq] at e
  obtain rfl:v=s.low:=by omega
  rw [Qml h.cut h.ne]
 ·rfl
def Xq (c:Ql) (g:Int) (s:QR) (t:Tx):QR :=
 if 8<(if (Qr c t g).isEmpty then s else QH s (s.last+1) (Qr c t g)).last then Zv (if (Qr c t g).isEmpty then s else QH s (s.last+1) (Qr c t g)) ((if (Qr c t g).isEmpty then s else QH s (s.last+1) (Qr c t g)).last-8)
 else (if (Qr c t g).isEmpty then s else QH s (s.last+1) (Qr c t g))
structure JL (s:QR):Prop where
 ok:Yw s
 lo:8<s.last->s.last-8<=s.low
theorem Qfh:JL Kt:=⟨QgM,fun h=>absurd h (by decide)⟩
theorem Qav {s:QR} {ws:List Wr} (hw:Yv ws=true):QH s (s.last+1) ws=⟨Zx (s.last+1) s.ks ws,s.last+1,s.low⟩:=by
 rw [QH,if_neg (by omega),if_pos hw]
theorem Qgg {s:QR} {v:Nat}:(Zv s v).last=s.last:=by unfold Zv;split <;> rfl
theorem Qaw {c:Ql} {g:Int} {s:QR} {t:Tx} (h:JL s) (hw:Qr c t g=[]):Xq c g s t=s:=by
 unfold Xq
 rw [hw]
 show (if 8<s.last then Zv s (s.last-8) else s)=s
 split
 ·next e=>exact Qgf h.ok (h.lo e)
 ·rfl
theorem Vp {c:Ql} {g:Int} {s:QR} {t:Tx} (h:JL s) (hf:Qh t=true) (hw:Qr c t g ≠ []):Xq c g s t=K5 s (Qr c t g)/\JL (Xq c g s t):=by
 have hne:(Qr c t g).isEmpty=false:=by simpa using hw
 have hok:Yv (Qr c t g)=true:=J4 hf
 have ha:=Qav (s:=s) hok
 have h1:Yw (QH s (s.last+1) (Qr c t g)):=Vy h.ok _ _
 have hl:(QH s (s.last+1) (Qr c t g)).last=s.last+1:=by rw [ha]
 have hlow:(QH s (s.last+1) (Qr c t g)).low=s.low:=by rw [ha]
 have e:Xq c g s t=if 8<s.last+1 then Zv (QH s (s.last+1) (Qr c t g)) (s.last+1-8) else QH s (s.last+1) (Qr c t g):=by
  unfold Xq
  rw [hne]
  simp only [Bool.false_eq_true,if_false,hl]
 refine ⟨?_,?_⟩
 ·rw [e]
  unfold K5
  by_cases h8:8<s.last+1
  ·rw [if_pos h8]
   by_cases hq:(QH s (s.last+1) (Qr c t g)).low<s.last+1-8
   ·rw [if_pos ⟨h8,hq⟩]
   ·rw [if_neg (fun z=>hq z.2),Qgf h1 (by omega)]
  ·rw [if_neg h8,if_neg (fun z=>h8 z.1)]
 ·rw [e]
  split
  ·next h8 =>
   refine ⟨QdM h1 _,fun _=>?_⟩
   rw [Qgg,hl]
   unfold Zv
   split
   ·exact Nat.le_refl _
   ·next q =>
    simp only [Xy,Bool.and_eq_true,decide_eq_true_eq,hl] at q
    omega
  ·next h8=>exact ⟨h1,fun q=>by rw [hl] at q;exact absurd q h8⟩
theorem Qmm {c:Ql} {g:Int} {s:QR} (h:JL s) {x:KS} (hf:Qh x.t=true) (hy:x.y=true):Xq c g s x.t=KJ c g s x/\JL (Xq c g s x.t):=by
 by_cases hw:Qr c x.t g=[]
 ·rw [Qaw h hw,KJ,hw]
  exact ⟨by simp,h⟩
 ·obtain ⟨h1,h2⟩:=Vp h hf hw
  refine ⟨?_,h2⟩
  rw [h1,KJ,hy]
  have:(Qr c x.t g).isEmpty=false:=by simpa using hw
  rw [this];rfl
def Jb (c:Ql) (g:Int) (O:List Tx):QR:=O.foldl (Xq c g) Kt
theorem Qcp (c:Ql) (g:Int) (O:List Tx) (t:Tx):Jb c g (O ++ [t])=Xq c g (Jb c g O) t:=by simp [Jb]
def U5 (H:List KS):List Tx:=(H.filter fun x=>x.y).map fun x=>x.t
theorem Uf {c:Ql} {g:Int}:∀ (H:List KS) {s:QR},JL s->(∀ x ∈ H,Qh x.t=true)->(U5 H).foldl (Xq c g) s=H.foldl (KJ c g) s/\JL (H.foldl (KJ c g) s)
 | [],s,h,_=>⟨rfl,h⟩
 | x :: H,s,h,hf=>by
  have hf':∀ z ∈ H,Qh z.t=true:=fun z hz=>hf z (List.mem_cons_of_mem _ hz)
  cases hy:x.y with
  | true =>
   obtain ⟨h1,h2⟩:=Qmm (c:=c) (g:=g) h (hf x List.mem_cons_self) hy
   have e:U5 (x :: H)=x.t :: U5 H:=by simp [U5,hy]
   rw [e,List.foldl_cons,List.foldl_cons,h1]
   exact Uf H (by rw [<- h1];exact h2) hf'
  | false =>
   have e:U5 (x :: H)=U5 H:=by simp [U5,hy]
   have e2:KJ c g s x=s:=by rw [KJ,hy];rfl
   rw [e,List.foldl_cons,e2]
   exact Uf H h hf'
theorem QhU {c:Ql} {g:Int} {H:List KS} (hf:∀ x ∈ H,Qh x.t=true):Jb c g (U5 H)=Qbu c g H/\JL (Qbu c g H):=Uf H Qfh hf
theorem Qa0 (a:Nat × Qp):¬ Xx a a:=by
 rintro (h | ⟨_,h⟩)
 ·exact Nat.lt_irrefl _ h
 ·rw [Qfn] at h;cases h
theorem QeM {α:Type} {key:α->Nat × Qp}:∀ {l m:List α},l.Pairwise (fun a b=>Xx (key a) (key b))->m.Pairwise (fun a b=>Xx (key a) (key b))->(∀ x,x ∈ l ↔ x ∈ m)->l=m
 | [],[],_,_,_=>rfl
 | [],b :: m,_,_,h=>absurd ((h b).2 List.mem_cons_self) (by simp)
 | a :: l,[],_,_,h=>absurd ((h a).1 List.mem_cons_self) (by simp)
 | a :: l,b :: m,hl,hm,h=>by
  obtain ⟨l1,l2⟩:=List.pairwise_cons.1 hl
  obtain ⟨m1,m2⟩:=List.pairwise_cons.1 hm
  have e:a=b:=by
   rcases List.mem_cons.1 ((h a).1 List.mem_cons_self) with q | q
   ·exact q
   ·rcases List.mem_cons.1 ((h b).2 List.mem_cons_self) with q2 | q2
    ·exact q2.symm
    ·exact absurd (Qcn (l1 b q2) (m1 a q)) (Qa0 _)
  subst e
  have:l=m:=QeM l2 m2 (fun x=>by
   constructor
   ·intro hx
    rcases List.mem_cons.1 ((h x).1 (List.mem_cons_of_mem _ hx)) with q | q
    ·exact absurd (q ▸ l1 x hx) (Qa0 _)
    ·exact q
   ·intro hx
    rcases List.mem_cons.1 ((h x).2 (List.mem_cons_of_mem _ hx)) with q | q
    ·exact absurd (q ▸ m1 x hx) (Qa0 _)
    ·exact q)
  rw [this]
structure Yl where
 t:Tx
 s:Nat
def Yl.key (x:Yl):Nat × Qp:=(x.s,Qd x.t)
def V9 (c:Ql) (g:Int) (x:Yl):Bool:=(Qf c x.t).contains g
structure Qks (c:Ql) (all:List Tx) (W:Wd) (O:List Yl):Prop where
 asc:O.Pairwise fun a b=>Xx a.key b.key
 mem:∀ x ∈ O,x.t ∈ all/\∀ y:Nat,(y:Int) ∈ Qf c x.t->Qe (W.m y).dc (Qd x.t)=some (true,x.s)
 all:∀ t ∈ all,∀ y:Nat,∀ s,(y:Int) ∈ Qf c t->Qe (W.m y).dc (Qd t)=some (true,s) -> ⟨t,s⟩ ∈ O
theorem QoQ {c:Ql} {all:List Tx} {W:Wd} {O:List Yl} (h:Qks c all W O) (hj:Jm all) {g:Nat} {H:List KS} (hH:XX c all g (W.m g) H):O.filter (V9 c g)=(H.filter fun x=>x.y).map fun x=>⟨x.t,x.s⟩:=by
 refine QeM (key:=Yl.key) (h.asc.filter _) ?_ (fun x=>?_)
 ·rw [List.pairwise_map]
  exact hH.asc.filter _
 ·rw [List.mem_filter,List.mem_map]
  constructor
  ·rintro ⟨hx,hg⟩
   have hg':(g:Int) ∈ Qf c x.t:=by simpa [V9] using hg
   obtain ⟨h1,h2⟩:=h.mem x hx
   have hd:=h2 g hg'
   obtain ⟨e,he,hi⟩:=hH.d2 _ _ hd
   have hd1:=hH.d1 e he
   rw [hi,hd] at hd1
   injection hd1 with hd1
   injection hd1 with q1 q2
   have et:=hj e.t (hH.mem e he).1 x.t h1 hi
   exact ⟨e,List.mem_filter.2 ⟨he,q1.symm⟩,by rw [et, <- q2]⟩
  ·rintro ⟨e,he,rfl⟩
   obtain ⟨he,hy⟩:=List.mem_filter.1 he
   obtain ⟨m1,m2⟩:=hH.mem e he
   have hd:=hH.d1 e he
   rw [show e.y=true from hy] at hd
   exact ⟨h.all e.t m1 g e.s m2 hd,by simpa [V9] using m2⟩
theorem QeN {c:Ql} {t:Tx} {g:Int} (hc:Qn c=true) (hf:Qh t=true) (h:Q4 c t g ≠ [] \/ Qr c t g ≠ []):g ∈ Qf c t:=by
 have key:∃ k ∈ QJ t ++ QT t,QO c k=g:=by
  rcases h with h | h
  ·obtain ⟨a,l,e⟩:=List.exists_cons_of_ne_nil h
   have ha:a ∈ Q4 c t g:=by rw [e];exact List.mem_cons_self
   rw [Q4,UO hc hf,List.mem_filter] at ha
   exact ⟨a.key,List.mem_append_left _ (List.mem_map.2 ⟨a,ha.1,rfl⟩),by simpa [QcB] using ha.2⟩
  ·obtain ⟨a,l,e⟩:=List.exists_cons_of_ne_nil h
   have ha:a ∈ Qr c t g:=by rw [e];exact List.mem_cons_self
   rw [Qr,Vd hc hf,List.mem_filter] at ha
   exact ⟨a.key,List.mem_append_right _ (List.mem_map.2 ⟨a,ha.1,rfl⟩),by simpa [Qbg] using ha.2⟩
 obtain ⟨k,hk,e⟩:=key
 obtain ⟨h0,h1⟩:=Uo hc k
 rw [Qf,if_pos hf,Y0,if_pos hc]
 refine ((X6 c (QJ t ++ QT t) c.reps.length).2 g).2 ⟨g.toNat,by omega,?_,by omega⟩
 rw [Xv,List.any_eq_true]
 exact ⟨k,hk,by rw [beq_iff_eq];omega⟩
def Kz (O:List Yl):List Tx:=O.map fun x=>x.t
theorem Vq {c:Ql} {g:Int} (hc:Qn c=true):∀ (O:List Yl) {s:QR},JL s->(∀ x ∈ O,Qh x.t=true)->(Kz O).foldl (Xq c g) s=(Kz (O.filter (V9 c g))).foldl (Xq c g) s/\JL ((Kz O).foldl (Xq c g) s)
 | [],s,h,_=>⟨rfl,h⟩
 | x :: O,s,h,hf=>by
  have hf':∀ z ∈ O,Qh z.t=true:=fun z hz=>hf z (List.mem_cons_of_mem _ hz)
  have hlow:JL (Xq c g s x.t):=by
   by_cases hw:Qr c x.t g=[]
   ·rw [Qaw h hw];exact h
   ·exact (Vp h (hf x List.mem_cons_self) hw).2
  by_cases hg:V9 c g x=true
  ·rw [List.filter_cons_of_pos hg]
   exact Vq hc O hlow hf'
  ·have hw:Qr c x.t g=[]:=by
    apply Classical.byContradiction
    intro e
    exact hg (by simpa [V9] using QeN hc (hf x List.mem_cons_self) (.inr e))
   rw [List.filter_cons_of_neg hg]
   have e:(Kz (x :: O)).foldl (Xq c g) s=(Kz O).foldl (Xq c g) s:=by
    show (Kz O).foldl (Xq c g) (Xq c g s x.t)=_
    rw [Qaw h hw]
   rw [e]
   exact Vq hc O h hf'
theorem QeO {c:Ql} {g:Int} (hc:Qn c=true) {O:List Yl} (hf:∀ x ∈ O,Qh x.t=true):Jb c g (Kz O)=Jb c g (Kz (O.filter (V9 c g)))/\JL (Jb c g (Kz O)):=Vq hc O Qfh hf
theorem QhV {α:Type} {key:α->Nat × Qp} {x:α}:∀ {l1 l2 m1 m2:List α},(l1 ++ x :: l2).Pairwise (fun a b=>Xx (key a) (key b))->l1 ++ x :: l2=m1 ++ x :: m2->l1=m1
 | [],l2,[],m2,_,_=>rfl
 | [],l2,b :: m1,m2,hp,e=>by
  exfalso
  simp only [List.nil_append,List.cons_append,List.cons.injEq] at e
  have h1:=(List.pairwise_cons.1 hp).1 x (by rw [e.2];simp)
  exact Qa0 _ h1
 | a :: l1,l2,[],m2,hp,e=>by
  exfalso
  simp only [List.nil_append,List.cons_append,List.cons.injEq] at e
  have h1:=(List.pairwise_cons.1 hp).1 x (by simp)
  rw [e.1] at h1
  exact Qa0 _ h1
 | a :: l1,l2,b :: m1,m2,hp,e=>by
  simp only [List.cons_append,List.cons.injEq] at e
  rw [e.1,QhV (List.pairwise_cons.1 hp).2 e.2]
structure QoR (c:Ql) (W:Wd) (O:List Yl):Prop where
 rd:∀ O1 x O2,O=O1 ++ x :: O2->∀ g:Nat,g<c.reps.length->Yj (Jb c g (Kz O1)) (Q4 c x.t g)=true
 st:∀ g:Nat,g<c.reps.length->(W.m g).s=Jb c g (Kz O)
theorem Qnn {c:Ql} {all:List Tx} {W:Wd} {O:List Yl} (hE:UB c all W) (hp:Xp c all) (h:Qks c all W O):QoR c W O:=by
 obtain ⟨k,G,hk,hR,_⟩:=hE.ex
 have hH:=Qkr hp.c hp.f hp.j hR (by omega)
 have hfO:∀ x ∈ O,Qh x.t=true:=fun x hx=>hp.f _ (h.mem x hx).1
 refine ⟨fun O1 x O2 e g hg=>?_,fun g hg=>?_⟩
 ·obtain ⟨H,hg'⟩:=hH g hg
  have hfH:∀ z ∈ H,Qh z.t=true:=fun z hz=>hp.f _ (hg'.mem z hz).1
  by_cases hr:Q4 c x.t g=[]
  ·rw [hr];rfl
  ·have hx:x ∈ O:=by rw [e];simp
   have hxg:=QeN hp.c (hfO x hx) (.inl hr)
   have hin:V9 c g x=true:=by simpa [V9] using hxg
   have hc:=QoQ h hp.j hg'
   have hmem:x ∈ (H.filter fun z=>z.y).map fun z=>(⟨z.t,z.s⟩:Yl):=by rw [<- hc];exact List.mem_filter.2 ⟨hx,hin⟩
   obtain ⟨z,hz,ez⟩:=List.mem_map.1 hmem
   obtain ⟨hzH,hzy⟩:=List.mem_filter.1 hz
   obtain ⟨H1,H2,eH⟩:=List.append_of_mem hzH
   have hv:=hg'.vote H1 z H2 eH hzy
   have eO:O1.filter (V9 c g) ++ x :: O2.filter (V9 c g)=((H1.filter fun z=>z.y).map fun z=>(⟨z.t,z.s⟩:Yl)) ++ x :: ((H2.filter fun z=>z.y).map fun z=>(⟨z.t,z.s⟩:Yl)):=by
    have h1:O.filter (V9 c g)=O1.filter (V9 c g) ++ x :: O2.filter (V9 c g):=by rw [e,List.filter_append,List.filter_cons_of_pos hin]
    rw [<- h1,hc,eH,List.filter_append,List.filter_cons_of_pos hzy,List.map_append,List.map_cons,ez]
   have hasc:(O1.filter (V9 c g) ++ x :: O2.filter (V9 c g)).Pairwise (fun a b=>Xx a.key b.key):=by
    have:=h.asc.filter (V9 c g)
    rwa [e,List.filter_append,List.filter_cons_of_pos hin] at this
   have e1:=QhV (key:=Yl.key) hasc eO
   have hf1:∀ y ∈ O1,Qh y.t=true:=fun y hy=>hfO y (by rw [e];simp [hy])
   have hfH1:∀ y ∈ H1,Qh y.t=true:=fun y hy=>hfH y (by rw [eH];simp [hy])
   have et:z.t=x.t:=by rw [<- ez]
   rw [(QeO hp.c hf1).1,e1, <- et]
   have e2:Kz ((H1.filter fun z=>z.y).map fun z=>(⟨z.t,z.s⟩:Yl))=U5 H1:=by simp [Kz,U5,Function.comp_def]
   rw [e2,(QhU hfH1).1]
   exact hv
 ·obtain ⟨H,hg'⟩:=hH g hg
  have hfH:∀ z ∈ H,Qh z.t=true:=fun z hz=>hp.f _ (hg'.mem z hz).1
  rw [hg'.st,(QeO hp.c hfO).1,QoQ h hp.j hg', <- (QhU hfH).1]
  congr 1
  simp [Kz,U5,Function.comp_def]
structure Jo (c:Ql) (ts:List Tx) (W:Wd) (i:Nat) (O:List Yl):Prop where
 asc:O.Pairwise fun a b=>Xx a.key b.key
 mem:∀ x ∈ O,(∃ j,j<i/\ts[j]? = some x.t)/\∀ y:Nat,(y:Int) ∈ Qf c x.t->Qe (W.m y).dc (Qd x.t)=some (true,x.s)
 all:∀ j t,j<i->ts[j]? = some t->∀ y:Nat,∀ s,(y:Int) ∈ Qf c t->Qe (W.m y).dc (Qd t)=some (true,s) -> ⟨t,s⟩ ∈ O
 len:O.length<=i
section
variable {c:Ql} {ts:List Tx} {W:Wd} {i:Nat} {O:List Yl}
theorem Jo.start:Jo c ts W 0 []:=⟨List.Pairwise.nil,fun _ h=>(by cases h),fun j _ h=>absurd h (Nat.not_lt_zero _),Nat.le_refl _⟩
theorem Jo.skip (h:Jo c ts W i O) {t:Tx} (ht:ts[i]? = some t) {s:Nat} (hd:∀ y:Nat,(y:Int) ∈ Qf c t->Qe (W.m y).dc (Qd t)=some (false,s)):Jo c ts W (i+1) O:=by
 refine ⟨h.asc,fun x hx=>?_,fun j t' hj ht' y s' hy hd'=>?_,Nat.le_succ_of_le h.len⟩
 ·obtain ⟨⟨j,hj,e⟩,h2⟩:=h.mem x hx
  exact ⟨⟨j,by omega,e⟩,h2⟩
 ·by_cases e:j=i
  ·subst e
   rw [ht] at ht';cases ht'
   rw [hd y hy] at hd';cases hd'
  ·exact h.all j t' (by omega) ht' y s' hy hd'
theorem QoS (hn:(ts.map Qd).Nodup) {j:Nat} {t t':Tx} (hj:j<i) (h:ts[j]? = some t) (h':ts[i]? = some t'):Qd t ≠ Qd t':=by
 intro e
 have h1:(ts.map Qd)[j]? = some (Qd t):=by rw [List.getElem?_map,h];rfl
 have h2:(ts.map Qd)[i]? = some (Qd t'):=by rw [List.getElem?_map,h'];rfl
 have hi:i<(ts.map Qd).length:=(List.getElem?_eq_some_iff.1 h2).1
 have hjl:j<(ts.map Qd).length:=(List.getElem?_eq_some_iff.1 h1).1
 have:=(List.pairwise_iff_getElem.1 hn) j i hjl hi hj
 rw [List.getElem?_eq_getElem hjl] at h1
 rw [List.getElem?_eq_getElem hi] at h2
 injection h1 with h1
 injection h2 with h2
 exact this (by rw [h1,h2,e])
theorem Qoh {a b:Nat × Qp} (h:¬ Xx a b) (hne:a.2 ≠ b.2):Xx b a:=by
 by_cases h1:b.1<a.1
 ·exact .inl h1
 ·by_cases h2:a.1=b.1
  ·refine .inr ⟨h2.symm,?_⟩
   cases e:YG b.2 a.2 with
   | true=>rfl
   | false =>
    cases e2:YG a.2 b.2 with
    | true=>exact absurd (.inr ⟨h2,e2⟩) h
    | false=>exact absurd (Qfo e2 e) hne
  ·exact absurd (.inl (by omega)) h
theorem Jo.ins (h:Jo c ts W i O) (hn:(ts.map Qd).Nodup) {t:Tx} (ht:ts[i]? = some t) {s:Nat} (hd:∀ y:Nat,(y:Int) ∈ Qf c t->Qe (W.m y).dc (Qd t)=some (true,s)) {k:Nat}
  (hlt:∀ x ∈ O.take k,Xx x.key (s,Qd t)) (hge:∀ y,O[k]? = some y->¬ Xx y.key (s,Qd t)):Jo c ts W (i+1) (O.take k ++ ⟨t,s⟩ :: O.drop k):=by
 have hOe:O.take k ++ O.drop k=O:=List.take_append_drop k O
 have hmemO:∀ x,x ∈ O.take k ++ (⟨t,s⟩:Yl) :: O.drop k ↔ x=⟨t,s⟩ \/ x ∈ O:=fun x=>by
  conv=>rhs;rw [<- hOe]
  simp only [List.mem_append,List.mem_cons]
  constructor
  ·rintro (h | h | h)
   ·exact .inr (.inl h)
   ·exact .inl h
   ·exact .inr (.inr h)
  ·rintro (h | h | h)
   ·exact .inr (.inl h)
   ·exact .inl h
   ·exact .inr (.inr h)
 have hid:∀ x ∈ O,Qd x.t ≠ Qd t:=fun x hx=>by
  obtain ⟨⟨j,hj,e⟩,_⟩:=h.mem x hx
  exact QoS hn hj e ht
 have hgt:∀ x ∈ O.drop k,Xx (s,Qd t) x.key:=fun x hx=>by
  have hxO:x ∈ O:=List.mem_of_mem_drop hx
  cases hd:O.drop k with
  | nil=>rw [hd] at hx;cases hx
  | cons y r =>
   have hy:O[k]? = some y:=by rw [<- List.head?_drop,hd];rfl
   have hyO:y ∈ O:=List.mem_of_getElem? hy
   have h1:Xx (s,Qd t) y.key:=Qoh (hge y hy) (hid y hyO)
   rw [hd] at hx
   rcases List.mem_cons.1 hx with rfl | hx
   ·exact h1
   ·have h2:(O.drop k).Pairwise (fun a b=>Xx a.key b.key):=h.asc.sublist (List.drop_sublist k O)
    rw [hd] at h2
    exact Qcn h1 ((List.pairwise_cons.1 h2).1 x hx)
 refine ⟨?_,fun x hx=>?_,fun j t' hj ht' y s' hy hd'=>?_,?_⟩
 ·rw [List.pairwise_append]
  refine ⟨h.asc.sublist (List.take_sublist k O),List.pairwise_cons.2 ⟨fun x hx=>hgt x hx,h.asc.sublist (List.drop_sublist k O)⟩,fun x hx y hy=>?_⟩
  rcases List.mem_cons.1 hy with rfl | hy
  ·exact hlt x hx
  ·exact Qcn (hlt x hx) (hgt y hy)
 ·rcases (hmemO x).1 hx with rfl | hx
  ·exact ⟨⟨i,Nat.lt_succ_self _,ht⟩,hd⟩
  ·obtain ⟨⟨j,hj,e⟩,h2⟩:=h.mem x hx
   exact ⟨⟨j,by omega,e⟩,h2⟩
 ·rw [hmemO]
  by_cases e:j=i
  ·subst e
   rw [ht] at ht';cases ht'
   rw [hd y hy] at hd';cases hd'
   exact .inl rfl
  ·exact .inr (h.all j t' (by omega) ht' y s' hy hd')
 ·rw [List.length_append,List.length_cons,List.length_take,List.length_drop]
  have:=h.len
  omega
theorem Jo.end (h:Jo c ts W ts.length O):Qks c ts W O :=
 ⟨h.asc,fun x hx=>by
  obtain ⟨⟨j,_,e⟩,h2⟩:=h.mem x hx
  exact ⟨List.mem_of_getElem? e,h2⟩,fun t ht y s hy hd=>by
  obtain ⟨j,hj,rfl⟩:=List.mem_iff_getElem.1 ht
  exact h.all j _ hj (List.getElem?_eq_getElem hj) y s hy hd⟩
end
end Go.Proofs.YtcldpmkhpmlcbaaGreatDoor
