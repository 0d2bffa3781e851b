/- part -/
import Derived.StillTail
import Derived.Deep.RegionHeld
set_option linter.unusedVariables false
set_option linter.unusedSimpArgs false
namespace Go.Proofs.YtcldpmkhpmlcbaaGreatDoor
open Go
section
variable {P:Program} {md:Region.Mode}
def Qnv (md:Region.Mode) (ops:Array Oper):Bool:=(List.range ops.size).all fun i=>match ops[i]? with
 | some o=>o.after.all fun e=>!Region.binds md e || decide (e.on<i)
 | none=>true
theorem Qea {ops:Array Oper} (h:Qnv md ops=true) {i:Nat} {o:Oper} (hi:ops[i]? = some o):∀ e ∈ o.after,Region.binds md e=true->e.on<i:=by
 intro e he hb
 have hlt:i<ops.size:=(Array.getElem?_eq_some_iff.1 hi).1
 have h1:=List.all_eq_true.1 h i (List.mem_range.2 hlt)
 simp only [hi] at h1
 have h2:=Array.all_eq_true_iff_forall_mem.1 h1 e he
 rw [hb] at h2
 simpa using h2
def Qhf (l:List Oper):Bool:=l.all fun o=>o.guard.isNone
def Qbi (n m:Nat):Array Bool:=((List.range m).map fun i=>decide (i<n)).toArray
def Qnw (md:Region.Mode) (ops:Array Oper) (n k:Nat):Bool :=
 (List.range n).all fun i=>decide (i=k) || (List.range (n+1)).any fun j=>decide (i<j) && Region.waitsFor md ops j i
theorem Qij {ops:Array Oper} {n k:Nat} {listed:Array Bool} (hs:Qnw md ops n k=true) (hc:Region.chainB md ops n=true) (hn:n<ops.size) (inv:HeadInv md ops n listed) (hk:listed.getD k false=true) :
  ∀ (d i:Nat),n-i=d->i<n->listed.getD i true=false->∀ t,n<=t->t ∉ Region.ready md ops listed:=by
 intro d
 induction d using Nat.strongRecOn with
 | _ d ih =>
  intro i hd hi hun t ht hr
  have hik:i ≠ k:=fun e=>by
   have h1:=getD_both hun
   rw [e,hk] at h1
   cases h1
  obtain ⟨_,ot,hot,hall⟩:=mem_ready.1 hr
  have htlt:t<ops.size:=(Array.getElem?_eq_some_iff.1 hot).1
  by_cases htn:t=n
  ·subst htn
   have h1:=List.all_eq_true.1 hs i (List.mem_range.2 hi)
   rw [decide_eq_false hik,Bool.false_or] at h1
   obtain ⟨j,hj,hj2⟩:=List.any_eq_true.1 h1
   simp only [Bool.and_eq_true,decide_eq_true_eq] at hj2
   obtain ⟨oj,hoj,e,he,hb,hon⟩:=Region.waitsFor_spec hj2.2
   have hjle:j<=t:=by have:=List.mem_range.1 hj;omega
   by_cases hjt:j=t
   ·subst hjt
    obtain rfl:oj=ot:=Option.some.inj (hoj.symm.trans hot)
    have h2:=hall e he hb
    rw [hon,getD_both hun] at h2
    cases h2
   ·cases hl:listed.getD j false with
    | true =>
     have h2:=inv.closed j oj hoj hl e he hb
     rw [hon,getD_both hun] at h2
     cases h2
    | false =>
     have hjs:j<listed.size:=by rw [inv.size];omega
     exact ih (t-j) (by omega) j rfl (by omega) (getD_in hjs hl) t (Nat.le_refl _) hr
  ·have h1:=List.all_eq_true.1 hc t (List.mem_range.2 htlt)
   simp only [Bool.or_eq_true,decide_eq_true_eq] at h1
   rcases h1 with h1 | h1
   ·omega
   ·obtain ⟨o',ho',e,he,hb,hon⟩:=Region.waitsFor_spec h1
    obtain rfl:o'=ot:=Option.some.inj (ho'.symm.trans hot)
    have h2:=hall e he hb
    rw [hon,getD_both (inv.tail (t-1) (by omega) (by omega))] at h2
    cases h2
def Qeb (md:Region.Mode) (l:List Oper) (n k:Nat):Bool :=
 Qhf (l.take n) && Qnv md l.toArray && decide (n<l.length) && Qnw md l.toArray n k && Region.chainB md l.toArray n && Region.seqB md l.toArray (l.length-n) n (Qbi n l.length)
structure Qbj (n m:Nat) (listed full:Array Bool):Prop where
 s1:listed.size=n
 s2:full.size=m
 same:∀ i,i<n->full.getD i false=listed.getD i false
 tail:∀ t,n<=t->t<m->full.getD t true=false
theorem VF {l:Array Bool} {i:Nat} (h:i<l.size):l.getD i true=l.getD i false:=by simp [h]
theorem Qhg {l:Array Bool} {i:Nat} (h:l.size<=i):l.getD i false=false:=by simp [Array.getElem?_eq_none h]
theorem Qbj.getF {n m:Nat} {listed full:Array Bool} (h:Qbj n m listed full) (i:Nat):full.getD i false=listed.getD i false:=by
 by_cases hi:i<n
 ·exact h.same i hi
 ·rw [Qhg (l:=listed) (by rw [h.s1];omega)]
  by_cases hm:i<m
  ·rw [<- VF (by rw [h.s2];exact hm)];exact h.tail i (by omega) hm
  ·exact Qhg (by rw [h.s2];omega)
theorem Qbj.set {n m:Nat} {listed full:Array Bool} (h:Qbj n m listed full) (hnm:n<=m) {i:Nat} (hi:i<n):Qbj n m (listed.setIfInBounds i true) (full.setIfInBounds i true):=by
 refine ⟨by simp [h.s1],by simp [h.s2],fun j hj=>?_,fun t ht hm=>?_⟩
 ·by_cases hij:i=j
  ·subst hij
   have h1:=h.s1
   have h2:=h.s2
   have a1:i<listed.size:=by omega
   have a2:i<full.size:=by omega
   simp [a1,a2]
  ·rw [getD_set_ne false hij,getD_set_ne false hij];exact h.same j hj
 ·rw [getD_set_ne true (by omega)];exact h.tail t ht hm
theorem Qdo {l:List Oper} {n i:Nat} (hi:i<n):(l.take n).toArray[i]? = l.toArray[i]?:=by
 simp [List.getElem?_take_of_lt hi]
theorem QjI {l:List Oper} {n:Nat} {listed full:Array Bool} (h:Qbj n l.length listed full) (hn:n<=l.length) {i:Nat} (hi:i<n) :
  i ∈ Region.ready md l.toArray full ↔ i ∈ Region.ready md (l.take n).toArray listed:=by
 rw [mem_ready,mem_ready,Qdo hi,VF (l:=full) (by rw [h.s2];omega),VF (l:=listed) (by rw [h.s1];exact hi),h.same i hi]
 constructor
 ·rintro ⟨h0,o,ho,hall⟩
  exact ⟨h0,o,ho,fun e he hb=>by rw [<- h.getF];exact hall e he hb⟩
 ·rintro ⟨h0,o,ho,hall⟩
  exact ⟨h0,o,ho,fun e he hb=>by rw [h.getF];exact hall e he hb⟩
theorem Qik {o:Oper} (h:o.guard=none) (f:Nat->Option Bool):Region.wanted o f=true:=by simp [Region.wanted,h]
theorem Qlm {o:Oper} {a:Act} {w:World} {K T:Act->World->Prop} {Q:Exit->Act->World->Prop} (h:o.wp P a w K (Exit.then T Q)):o.wp P a w K Q:=by
 unfold Oper.wp at *
 generalize (execOp a.eval o).run P w=r at *
 cases r with
 | ok n w' =>
  cases n with
  | enter f args =>
   simp only [Oper.upon] at h ⊢
   refine Calls.mono h fun e w'' he=>?_
   cases e <;> exact he
  | _=>exact h
 | halt x w'=>cases x <;> exact h
theorem Qln {l:List Oper} {n i:Nat} (hi:i<n) (hg:Qhf (l.take n)=true) {K K' T:Act->World->Prop} {Q:Exit->Act->World->Prop} (hK:∀ a w,K a w->K' a w) {a:Act} {w:World}
  (h:wpOp P (l.take n).toArray (Exit.then T Q) i K a w):wpOp P l.toArray Q i K' a w:=by
 unfold wpOp at *
 rw [Qdo hi] at h
 cases ho:l.toArray[i]? with
 | none=>rw [ho] at h;exact hK _ _ h
 | some o =>
  rw [ho] at h
  have hgo:o.guard=none:=by
   have hm:o ∈ l.take n:=by
    have:=Qdo (l:=l) hi
    rw [ho] at this
    simp only [List.getElem?_toArray] at this
    exact List.mem_of_getElem? this
   simpa using List.all_eq_true.1 hg o hm
  simp only [Qik hgo,if_true] at h ⊢
  rcases h with h | ⟨h1,h2⟩
  ·exact .inl (Oper.wp_mono hK (Qlm h))
  ·obtain ⟨a',w',h2⟩:=h2
   exact .inr ⟨h1,⟨a',w',h2⟩⟩
theorem Qil {n m:Nat} {listed full:Array Bool} (h:Qbj n m listed full) (hnm:n<=m) (hall:∀ i,i<n->listed.getD i false=true):full=Qbi n m:=by
 apply Array.ext
 ·simp [Qbi,h.s2]
 ·intro i h1 h2
  have hm:i<m:=by rw [h.s2] at h1;exact h1
  simp only [Qbi,List.getElem_toArray,List.getElem_map,List.getElem_range]
  by_cases hi:i<n
  ·have:=h.same i hi
   rw [hall i hi] at this
   simp [h1] at this
   simp [this,hi]
  ·have:=h.tail i (by omega) hm
   simp [h1] at this
   simp [this,hi]
theorem Qim {l:List Oper} {n k:Nat} {Q:Exit->Act->World->Prop} (hB:Qeb md l n k=true):∀ (fuel:Nat) (listed full:Array Bool) (a:Act) (w:World),Qbj n l.length listed full ->
  (HeadInv md l.toArray n full)->full.getD k false=true->(((List.range n).filter fun i=>!listed.getD i false).length=fuel) ->
  wpAny P md (l.take n).toArray (Exit.then (wpList P l.toArray Q (l.drop n)) Q) fuel listed a w->wpAny P md l.toArray Q (fuel+(l.length-n)) full a w:=by
 have hB':=hB
 simp only [Qeb,Bool.and_eq_true,decide_eq_true_eq] at hB'
 obtain ⟨⟨⟨⟨⟨hg,hback⟩,hn⟩,hs⟩,hc⟩,hseq⟩:=hB'
 intro fuel
 induction fuel with
 | zero =>
  intro listed full a w hb inv hfk hcnt h
  have hall:∀ i,i<n->listed.getD i false=true:=fun i hi=>by
   have h1:=List.eq_nil_of_length_eq_zero hcnt
   rw [List.filter_eq_nil_iff] at h1
   simpa using h1 i (List.mem_range.2 hi)
  have e:=Qil hb (by omega) hall
  have h2:wpList P l.toArray Q (l.drop n) a w:=h.2
  have:=wpAny_of_seq (md:=md) (Q':=Q) (l.drop n) n full a w (fun j=>by simp [List.getElem?_drop]) (by rw [List.length_drop,e];exact hseq) h2
  rw [List.length_drop] at this
  rw [Nat.zero_add]
  exact this
 | succ fuel ih =>
  intro listed full a w hb inv hfk hcnt h
  have hex:∃ i,i<n/\listed.getD i false=false:=by
   have hne:((List.range n).filter fun i=>!listed.getD i false) ≠ []:=fun e=>by rw [e] at hcnt;cases hcnt
   obtain ⟨i,hi⟩:=List.exists_mem_of_ne_nil _ hne
   rw [List.mem_filter,List.mem_range] at hi
   exact ⟨i,hi.1,by simpa using hi.2⟩
  obtain ⟨i0,hi0,hun0⟩:=hex
  have hunF:full.getD i0 true=false:=by rw [VF (by rw [hb.s2];omega),hb.same i0 hi0];exact hun0
  have hlt:∀ j,j ∈ Region.ready md l.toArray full->j<n:=fun j hj=>by
   rcases Nat.lt_or_ge j n with q | q
   ·exact q
   ·exact absurd hj (Qij hs hc (by simpa using hn) inv hfk _ i0 rfl hi0 hunF j q)
  rw [show fuel+1+(l.length-n)=(fuel+(l.length-n))+1 by omega]
  refine ⟨fun h0=>?_,fun i hi=>?_⟩
  ·
   exfalso
   have key:∀ k,∀ i,i<=k->i<n->listed.getD i false=false->False:=by
    intro k
    induction k with
    | zero =>
     intro i hik hi hun
     obtain rfl:i=0:=by omega
     have hr:(0:Nat) ∈ Region.ready md l.toArray full:=by
      rw [mem_ready]
      have hlt0:0<l.toArray.size:=by simp;omega
      refine ⟨by rw [VF (by rw [hb.s2];omega),hb.same 0 hi];exact hun,l.toArray[0],by rw [Array.getElem?_eq_getElem hlt0],fun e he hbd=>?_⟩
      have:=Qea hback (Array.getElem?_eq_getElem hlt0) e he hbd
      omega
     rw [h0] at hr;cases hr
    | succ k ihk =>
     intro i hik hi hun
     by_cases hall:∀ j,j<i->listed.getD j false=true
     ·have hlti:i<l.toArray.size:=by simp;omega
      have hr:i ∈ Region.ready md l.toArray full:=by
       rw [mem_ready]
       refine ⟨by rw [VF (by rw [hb.s2];omega),hb.same i hi];exact hun,l.toArray[i],by rw [Array.getElem?_eq_getElem hlti],fun e he hbd=>?_⟩
       have h1:=Qea hback (Array.getElem?_eq_getElem hlti) e he hbd
       rw [hb.getF]
       exact hall _ h1
      rw [h0] at hr;cases hr
     ·have:∃ j,j<i/\listed.getD j false=false:=by
       apply Classical.byContradiction
       intro hno
       apply hall
       intro j hj
       cases e:listed.getD j false
       ·exact absurd ⟨j,hj,e⟩ hno
       ·rfl
      obtain ⟨j,hj,hjun⟩:=this
      exact ihk j (by omega) (by omega) hjun
   exact key i0 i0 (Nat.le_refl _) hi0 hun0
  ·have hin:=hlt i hi
   have hir:=(QjI (md:=md) hb (by omega) hin).1 hi
   have hunl:listed.getD i false=false:=by
    have:=(mem_ready.1 hir).1
    rwa [VF (by rw [hb.s1];exact hin)] at this
   refine Qln hin hg (fun a' w' hw=>?_) (h.2 i hir)
   refine ih _ _ a' w' (hb.set (by omega) hin) (inv.set hi hin) (getD_set_true hfk) ?_ hw
   have:((List.range n).filter fun j=>!listed.getD j false).length=((List.range n).filter fun j=>!(listed.setIfInBounds i true).getD j false).length+1:=by
    have hset:∀ j,(listed.setIfInBounds i true).getD j false=if j=i then true else listed.getD j false:=fun j=>by
     by_cases e:i=j
     ·subst e
      have:=hb.s1
      simp [show i<listed.size by omega]
     ·rw [getD_set_ne false e,if_neg (fun z=>e z.symm)]
    have hp:∀ (L:List Nat),L.Nodup->i ∈ L->(L.filter fun j=>!listed.getD j false).length=(L.filter fun j=>!(listed.setIfInBounds i true).getD j false).length+1:=by
     intro L
     induction L with
     | nil=>intro _ hm;cases hm
     | cons x L ihL =>
      intro hnd hm
      rw [List.nodup_cons] at hnd
      by_cases hx:x=i
      ·subst hx
       have hsame:(L.filter fun j=>!(listed.setIfInBounds x true).getD j false)=L.filter fun j=>!listed.getD j false:=by
        apply List.filter_congr
        intro y hy
        rw [hset,if_neg (fun (e:y=x)=>hnd.1 (by rw [<- e];exact hy))]
       rw [List.filter_cons,List.filter_cons,hset,if_pos rfl,hunl,hsame]
       simp
      ·have hm':i ∈ L:=(List.mem_cons.1 hm).resolve_left (fun e=>hx e.symm)
       have:=ihL hnd.2 hm'
       rw [List.filter_cons,List.filter_cons,hset,if_neg hx]
       split
       ·simp only [List.length_cons,this]
       ·exact this
    exact hp _ List.nodup_range (List.mem_range.2 hin)
   omega
theorem Yp {id:Nat} {Q:Exit->Act->World->Prop} {a:Act} {w:World} {l:List Oper} {S:World->Prop} (n k:Nat) {ok:Oper} {v:Value} (hm:P.follows .mixedOrders=true) (hB:Qeb .any l n k=true)
  (hkn:k<n) (hi:l.toArray[k]? = some ok) (hsel:Region.noSelect l.toArray=true) (hf:Region.free .any l.toArray (Array.replicate l.toArray.size false) k=true) (hr:(Region.ready .any l.toArray (Array.replicate l.toArray.size false)).contains k=true)
  (hQ:∀ c a w,Q (.panic c) (a.put ok.dst v) w->Q (.panic c) a w) (hy:Yields P l.toArray ok v a) (hS:S w.drew)
  (h:S w.drew->wpAnyH P .any (l.take n).toArray (Exit.then (wpList P l.toArray Q (l.drop n)) Q) S (n-1) ((Array.replicate n false).setIfInBounds k true) (a.put ok.dst v) w.drew):(Code.region id l.toArray true).wp P Q a w:=by
 have hB':=hB
 simp only [Qeb,Bool.and_eq_true,decide_eq_true_eq] at hB'
 obtain ⟨⟨⟨⟨⟨hg,hback⟩,hn⟩,hs⟩,hc⟩,hseq⟩:=hB'
 refine wp_region_any hm ?_
 have hb0:Qbj n l.length (Array.replicate n false) (Array.replicate l.length false):=⟨by simp,by simp,fun i hi=>by rw [getD_replicate_false,getD_replicate_false],fun t _ ht=>getD_in (by simpa using ht) (getD_replicate_false _ _)⟩
 have inv0:HeadInv .any l.toArray n (Array.replicate l.length false) :=
  ⟨by simp,fun j oj _ hl=>(by rw [getD_replicate_false] at hl;cases hl),fun t _ ht=>getD_in (by simpa using ht) (getD_replicate_false _ _)⟩
 have hsz:l.toArray.size=(n-1+(l.length-n))+1:=by simp;omega
 have hr':k ∈ Region.ready .any l.toArray (Array.replicate l.length false):=by
  have:=hr
  rw [List.size_toArray] at this
  simpa using this
 rw [hsz]
 refine wpAny_take hi hsel (by rw [<- hsz];exact hf) (by rw [<- hsz];exact hr) hQ hy ?_
 rw [<- hsz,List.size_toArray]
 refine Qim hB _ _ _ _ _ (hb0.set (by omega) hkn) (inv0.set hr' hkn) (by simp [show k<l.length by omega]) ?_ (wpAny_of_held _ _ _ _ (h hS))
 have hset:∀ j,j<n->((Array.replicate n false).setIfInBounds k true).getD j false=decide (j=k):=fun j hj=>by
  by_cases e:k=j
  ·subst e;simp [hj]
  ·rw [getD_set_ne false e,getD_replicate_false,decide_eq_false (fun z=>e z.symm)]
 have e1:((List.range n).filter fun i=>!((Array.replicate n false).setIfInBounds k true).getD i false)=(List.range n).filter fun i=>!decide (i=k):=by
  apply List.filter_congr
  intro j hj
  rw [hset j (List.mem_range.1 hj)]
 have e2:((List.range n).filter fun i=>!decide (i=k))=(List.range n).erase k:=by
  rw [List.Nodup.erase_eq_filter List.nodup_range]
  apply List.filter_congr
  intro j _
  by_cases e:j=k <;> simp [e]
 rw [e1,e2,List.length_erase_of_mem (List.mem_range.2 hkn),List.length_range]
end
end Go.Proofs.YtcldpmkhpmlcbaaGreatDoor
