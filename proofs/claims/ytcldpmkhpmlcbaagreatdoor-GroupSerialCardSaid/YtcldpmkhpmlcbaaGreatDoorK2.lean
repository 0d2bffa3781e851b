/- part -/
import Derived.Test.YtcldpmkhpmlcbaaGreatDoorK1
import Derived.Test.YtcldpmkhpmlcbaaGreatDoorJ23
set_option linter.unusedVariables false
set_option linter.unusedSimpArgs false
namespace Go.Proofs.YtcldpmkhpmlcbaaGreatDoor
open Go.RowKit Go.Shelf Go.Maps
inductive Kr where
 | no | wrd | mrow | wrow | way (h:Nat) | mach (g:Nat)
deriving DecidableEq
theorem Qf8 {α:Type} {f:α->List Value} {n:Nat} (hf:∀ a,(f a).length=n) (d:α):∀ (l:List α) (k j:Nat),k<l.length->j<n->(l.flatMap f)[k * n+j]? = (f (l.getD k d))[j]?
 | [],k,j,h,_=>by simp at h
 | x :: l,0,j,_,hj=>by
  rw [List.flatMap_cons,Nat.zero_mul,Nat.zero_add,List.getElem?_append_left (by rw [hf];exact hj)]
  rfl
 | x :: l,k+1,j,h,hj=>by
  have:=Qf8 hf d l k j (by simpa using h) hj
  rw [List.flatMap_cons,List.getElem?_append_right (by rw [hf,Nat.succ_mul];omega),hf,show (k+1) * n+j-n=k * n+j by rw [Nat.succ_mul];omega,this]
  rfl
theorem Qbt {α:Type} {f:α->List Value} {n:Nat} (hf:∀ a,(f a).length=n) (d:α) {w:World} {base:Nat} {e:TypeId} {v:Value} {l:List α} (h:w.ownsRow base e n v l.length (l.flatMap f)) :
  ∃ (A:Option Addr) (cap:Nat),v = .slice A l.length cap/\∀ k,k<l.length->∃ g off,A=some ⟨g,off,none⟩/\Kf w ⟨g,off+k * n,none⟩ (f (l.getD k d)).toArray:=by
 rcases h.2 with ⟨rfl,h0⟩ | ⟨g,cap,cur,rfl,hfr,hh,hn,_,_,ht⟩
 ·exact ⟨none,0,by rw [h0],fun k hk=>by omega⟩
 ·refine ⟨some ⟨g,0,none⟩,cap,rfl,fun k hk=>⟨g,0,rfl,fun j u hu=>?_⟩⟩
  have hj:j<n:=by
   have:=(Array.getElem?_eq_some_iff.1 hu).1
   simpa [hf] using this
  have hlt:k * n+j<l.length * n:=by
   have:(k+1) * n<=l.length * n:=Nat.mul_le_mul_right _ hk
   rw [Nat.succ_mul] at this
   omega
  have h1:(cur.toList.take (l.length * n))[k * n+j]? = (l.flatMap f)[k * n+j]?:=by rw [ht]
  rw [List.getElem?_take_of_lt hlt,Qf8 hf d l k j hk hj] at h1
  rw [Go.WideShapes.add_plain]
  simp only [World.cell?,hh,Nat.zero_add,Option.isSome_none,Bool.false_eq_true,if_false]
  rw [<- Array.getElem?_toList,h1, <- hu]
  simp
theorem Qf9 {w:World} {base j:Nat} {e:TypeId} {v:Value} {f:Nat->Value} (h:w.ownsRow base e 1 v j ((List.range j).map f)):∃ (A:Option Addr) (cap:Nat),v = .slice A j cap/\∀ k,k<j->∃ g off,A=some ⟨g,off,none⟩/\v.ownBlock=some g/\w.cell? ⟨g,off+k,none⟩=some (f k):=by
 rcases h.2 with ⟨rfl,h0⟩ | ⟨g,cap,cur,rfl,hfr,hh,hn,_,_,ht⟩
 ·exact ⟨none,0,by rw [h0],fun k hk=>by omega⟩
 ·refine ⟨some ⟨g,0,none⟩,cap,rfl,fun k hk=>⟨g,0,rfl,rfl,?_⟩⟩
  have h1:(cur.toList.take (j * 1))[k]? = ((List.range j).map f)[k]?:=by rw [ht]
  rw [List.getElem?_take_of_lt (by omega)] at h1
  simp only [World.cell?,hh,Nat.zero_add,Option.isSome_none,Bool.false_eq_true,if_false]
  rw [<- Array.getElem?_toList,h1]
  simp [hk]
theorem Ql2 {w:World} {base n size g c j:Nat} {e:TypeId} {xs:List Value} (v:Value) (h:w.ownsRow base e size (.slice (some ⟨g,0,none⟩) n c) n xs):(w.setCell ⟨g,j,none⟩ v).ownsRow base e size (.slice (some ⟨g,0,none⟩) n c) n (xs.set j v):=by
 refine ⟨by rw [List.length_set];exact h.1,?_⟩
 rcases h.2 with ⟨e0,_⟩ | ⟨g',cap,cur,e1,hfr,hh,hn,hm,hs,ht⟩
 ·cases e0
 ·cases e1
  refine .inr ⟨g,c,cur.setIfInBounds j v,rfl,hfr,ZJ v hh,hn,hm,by rw [Array.size_setIfInBounds];exact hs,?_⟩
  rw [Array.toList_setIfInBounds,List.take_set,ht]
theorem Ql3 {j h:Nat} {f:Nat->Value} (v:Value):((List.range j).map f).set h v=(List.range j).map fun x=>if x=h then v else f x:=by
 apply List.ext_getElem
 ·simp
 ·intro i h1 h2
  rw [List.getElem_set]
  simp only [List.getElem_map,List.getElem_range]
  by_cases e:h=i
  ·rw [if_pos e,if_pos e.symm]
  ·rw [if_neg e,if_neg (fun z=>e z.symm)]
def KR (l:List Q2):List Value:=l.flatMap fun a=>a.vs.toList
theorem Qgt (l:List Q2) (a:Q2):KR (l ++ [a])=KR l ++ a.vs.toList:=by simp [KR]
structure Xe where
 A:Option Addr
 A':Option Addr
 ca:Nat
 cb:Nat
 mv:Value
 wv:Value
 ps:Nat->Nat
 av:Nat->Value
 labs:Nat->Nat->QL
 ow:Nat->Kr
structure Q3 (w0 wr:World) (b:Nat) (c:Ql) (j jw:Nat) (W:Wd) (F:Xe):Prop where
 b0:Below w0.heap.size w0 wr
 blk:wr.heap[b]? = some (.cells #[.slice F.A c.reps.length F.ca,.slice F.A' c.bnds.length F.cb,F.mv,F.wv] 57 (0,0))
 lb:F.ow b = .wrd
 mr:wr.ownsRow w0.heap.size 29 1 F.mv j ((List.range j).map fun g=>.pointer (some ⟨F.ps g,0,none⟩))
 lm:∀ k,F.mv.ownBlock=some k->F.ow k = .mrow
 wrr:wr.ownsRow w0.heap.size 26 1 F.wv jw ((List.range jw).map F.av)
 lw:∀ k,F.wv.ownBlock=some k->F.ow k = .wrow
 way:∀ h,h<jw->wr.ownsRow w0.heap.size 41 10 (F.av h) (W.way h).length (KR (W.way h))
 lway:∀ h,h<jw->∀ k,(F.av h).ownBlock=some k->F.ow k = .way h
 m:∀ g:Nat,g<j->∃ E ov os,ZW wr w0.heap.size (F.ps g) c g (2 * W.cnt g) (F.labs g) (W.m g) E ov os
 lmach:∀ g:Nat,g<j->∀ k,F.labs g k ≠ .no->F.ow k = .mach g
 lt:∀ k,F.ow k ≠ .no->w0.heap.size<=k/\k<wr.heap.size
 cf:Z9 w0 c F.A F.A'
section
variable {w0 wr wz:World} {b:Nat} {c:Ql} {j jw:Nat} {W:Wd} {F:Xe}
theorem Q3.later (h : Q3 w0 wr b c j jw W F) (hb : Below wr.heap.size wr wz) : Q3 w0 wz b c j jw W F :=
  { h with
    b0 := Qa h.b0 hb, blk := Xw h.blk hb, mr := Qi h.mr hb, wrr := Qi h.wrr hb, way := fun x hx => Qi (h.way x hx) hb
    m := fun g hg => by
      obtain ⟨E, ov, os, hm⟩ := h.m g hg
      exact ⟨E, ov, os, hm.later hb⟩
    lt := fun k hk => ⟨(h.lt k hk).1, Nat.lt_of_lt_of_le (h.lt k hk).2 hb.size⟩ }
theorem Q3.cs (h:Q3 w0 wr b c j jw W F):wr.cell? ⟨b,0,none⟩=some (.slice F.A c.reps.length F.ca)/\wr.cell? ⟨b,1,none⟩=some (.slice F.A' c.bnds.length F.cb)/\wr.cell? ⟨b,2,none⟩=some F.mv/\wr.cell? ⟨b,3,none⟩=some F.wv:=by
 refine ⟨?_,?_,?_,?_⟩ <;> (rw [cell_of_row wr b _ _ _ _ h.blk];rfl)
theorem Q3.mach (h:Q3 w0 wr b c j jw W F):∃ (A:Option Addr) (cap:Nat),F.mv = .slice A j cap/\∀ g,g<j->∃ bm off,A=some ⟨bm,off,none⟩/\F.ow bm = .mrow/\wr.cell? ⟨bm,off+g,none⟩=some (.pointer (some ⟨F.ps g,0,none⟩)):=by
 obtain ⟨A,cap,e,hk⟩:=Qf9 h.mr
 refine ⟨A,cap,e,fun g hg=>?_⟩
 obtain ⟨bm,off,e1,e2,e3⟩:=hk g hg
 exact ⟨bm,off,e1,h.lm _ e2,e3⟩
theorem Q3.ways (h:Q3 w0 wr b c j jw W F):∃ (A:Option Addr) (cap:Nat),F.wv = .slice A jw cap/\∀ x,x<jw->∃ bm off,A=some ⟨bm,off,none⟩/\F.ow bm = .wrow/\wr.cell? ⟨bm,off+x,none⟩=some (F.av x):=by
 obtain ⟨A,cap,e,hk⟩:=Qf9 h.wrr
 refine ⟨A,cap,e,fun x hx=>?_⟩
 obtain ⟨bm,off,e1,e2,e3⟩:=hk x hx
 exact ⟨bm,off,e1,h.lw _ e2,e3⟩
theorem Q3.wayAt (h:Q3 w0 wr b c j jw W F) {x:Nat} (hx:x<jw):∃ (A:Option Addr) (cap:Nat),F.av x = .slice A (W.way x).length cap/\∀ k,k<(W.way x).length->∃ g off,A=some ⟨g,off,none⟩/\F.ow g = .way x/\Kf wr ⟨g,off+k * 10,none⟩ ((W.way x).getD k Kh).vs:=by
 obtain ⟨A,cap,e,hk⟩:=Qbt (n:=10) (fun a:Q2=>rfl) Kh (h.way x hx)
 refine ⟨A,cap,e,fun k hkl=>?_⟩
 obtain ⟨g,off,e1,e2⟩:=hk k hkl
 have hb:(F.av x).ownBlock=some g:=by rw [e,e1];rfl
 exact ⟨g,off,e1,h.lway x hx _ hb,by simpa using e2⟩
structure Zt (w w':World) (F F':Xe):Prop where
 out:Qg (fun k=>F.ow k ≠ .no) w w'
 keep:∀ k,k<w.heap.size->F.ow k = .no->F'.ow k = .no
theorem Zt.below {w w':World} {F:Xe} (hb:Below w.heap.size w w'):Zt w w' F F:=⟨Qg.of_below hb,fun _ _ e=>e⟩
theorem Zt.trans {w w1 w2:World} {F F1 F2:Xe} (h:Zt w w1 F F1) (h':Zt w1 w2 F1 F2):Zt w w2 F F2 :=
 ⟨h.out.trans_old h'.out (fun k hk e=>fun z=>e (h.keep k hk z)),fun k hk e=>h'.keep k (Nat.lt_of_lt_of_le hk h.out.size) (h.keep k hk e)⟩
def VL (W:Wd) (g:Nat) (m:Qk):Wd:={ W with m:=fun h=>if h=g then m else W.m h,cnt:=fun h=>if h=g then W.cnt g+1 else W.cnt h }
theorem Q3.applied (h : Q3 w0 wr b c j jw W F) {g : Nat} (hg : g < j) {a : Q2} {v : Value} (ha : V7 wr wz w0.heap.size (F.ps g) c g (2 * W.cnt g) (F.labs g) (W.m g) a v) :
    ∃ F' : Xe, Q3 w0 wz b c j jw (VL W g (Q5 c g (W.m g) a)) F' /\ Q8 wz w0.heap.size (F'.labs g) v (Zs c g (W.m g) a) /\ Zt wr wz F F' := by
  obtain ⟨E, ov, os, hm⟩ := h.m g hg
  obtain ⟨lab', E', ov', os', hO, hG, hS⟩ := ha
  have hno : ∀ k, k < wr.heap.size -> F.ow k ≠ .mach g -> F.labs g k = .no := fun k hk hne => by
    apply Classical.byContradiction
    intro e
    exact hne (h.lmach g hg k e)
  have hno' : ∀ k, k < wr.heap.size -> F.ow k ≠ .mach g -> lab' k = .no := fun k hk hne => by rw [hS.ext k hk]; exact hno k hk hne
  have hkeep : ∀ k, F.ow k ≠ .no -> F.ow k ≠ .mach g -> (if lab' k ≠ .no then Kr.mach g else F.ow k) = F.ow k := fun k h1 h2 => if_neg (fun z => z (hno' k (h.lt k h1).2 h2))
  have hrow : ∀ {n k : Nat} {e : TypeId} {u : Value} {xs : List Value}, wr.ownsRow w0.heap.size e k u n xs -> (∀ q, u.ownBlock = some q -> F.ow q ≠ .no /\ F.ow q ≠ .mach g) -> wz.ownsRow w0.heap.size e k u n xs := fun hr hq => hS.out.row hr (fun q e z => z (hno q (h.lt q (hq q e).1).2 (hq q e).2))
  have hbz : Below w0.heap.size wr wz := hS.out.below h.b0.size (fun k hk => hm.lb k hk)
  refine ⟨{ F with labs := fun x => if x = g then lab' else F.labs x, ow := fun k => if lab' k ≠ .no then .mach g else F.ow k }, ?_, ?_, ⟨hS.out.mono fun k e => (by rw [h.lmach g hg k e]; intro z; cases z), fun k hk e => ?_⟩⟩
  · exact {
      cf := h.cf
      b0 := h.b0.trans hbz
      blk := hS.out.obj h.blk (fun z => z (hno b (h.lt b (by rw [h.lb]; decide)).2 (by rw [h.lb]; intro z; cases z)))
      lb := by
        show (if lab' b ≠ .no then Kr.mach g else F.ow b) = _
        rw [hkeep b (by rw [h.lb]; decide) (by rw [h.lb]; intro z; cases z)]; exact h.lb
      mr := hrow h.mr (fun q e => by rw [h.lm q e]; exact ⟨by decide, by intro z; cases z⟩)
      lm := fun k e => by
        have := h.lm k e
        show (if lab' k ≠ .no then Kr.mach g else F.ow k) = _
        rw [hkeep k (by rw [this]; decide) (by rw [this]; intro z; cases z)]; exact this
      wrr := hrow h.wrr (fun q e => by rw [h.lw q e]; exact ⟨by decide, by intro z; cases z⟩)
      lw := fun k e => by
        have := h.lw k e
        show (if lab' k ≠ .no then Kr.mach g else F.ow k) = _
        rw [hkeep k (by rw [this]; decide) (by rw [this]; intro z; cases z)]; exact this
      way := fun x hx => hrow (h.way x hx) (fun q e => by rw [h.lway x hx q e]; exact ⟨(by intro z; cases z), (by intro z; cases z)⟩)
      lway := fun x hx k e => by
        have := h.lway x hx k e
        show (if lab' k ≠ .no then Kr.mach g else F.ow k) = _
        rw [hkeep k (by rw [this]; intro z; cases z) (by rw [this]; intro z; cases z)]; exact this
      m := fun x hx => by
        show ∃ E ov os, ZW wz w0.heap.size (F.ps x) c x (2 * (if x = g then W.cnt g + 1 else W.cnt x)) (if x = g then lab' else F.labs x) (if x = g then Q5 c g (W.m g) a else W.m x) E ov os
        by_cases e : x = g
        · subst e
          rw [if_pos rfl, if_pos rfl, if_pos rfl]
          exact ⟨E', ov', os', hG⟩
        · rw [if_neg e, if_neg e, if_neg e]
          obtain ⟨E1, ov1, os1, h1⟩ := h.m x hx
          refine ⟨E1, ov1, os1, h1.out hS.out (fun k hk z => z (hno k (h1.lt k hk) ?_)) (fun k hk => ?_)⟩
          · rw [h.lmach x hx k hk]; intro z; cases z; exact e rfl
          · exact hm.lb k hk
      lmach := fun x hx k hk => by
        have hk' : (if x = g then lab' else F.labs x) k ≠ .no := hk
        show (if lab' k ≠ .no then Kr.mach g else F.ow k) = .mach x
        by_cases e : x = g
        · subst e
          rw [if_pos rfl] at hk'
          exact if_pos hk'
        · rw [if_neg e] at hk'
          have := h.lmach x hx k hk'
          rw [hkeep k (by rw [this]; intro z; cases z) (by rw [this]; intro z; cases z; exact e rfl)]; exact this
      lt := fun k hk => by
        have hk' : (if lab' k ≠ .no then Kr.mach g else F.ow k) ≠ .no := hk
        by_cases e : lab' k ≠ .no
        · have := hG.m.lt k e
          exact this
        · rw [if_neg e] at hk'
          exact ⟨(h.lt k hk').1, Nat.lt_of_lt_of_le (h.lt k hk').2 hS.out.size⟩ }
  · show Q8 wz w0.heap.size (if g = g then lab' else F.labs g) v _
    rw [if_pos rfl]; exact hO
  · show (if lab' k ≠ .no then Kr.mach g else F.ow k) = .no
    rw [hno' k hk (by rw [e]; intro z; cases z), if_neg (fun z => z rfl)]; exact e
end
section
variable {w0 wr wz w3:World} {b:Nat} {c:Ql} {j jw:Nat} {W:Wd} {F:Xe}
theorem Q3.bown (h:Q3 w0 wr b c j jw W F):b<wr.heap.size:=(h.lt b (by rw [h.lb];decide)).2
theorem Q3.fresh (h:Q3 w0 wr b c j jw W F) {k:Nat} (hk:wr.heap.size<=k):F.ow k = .no:=by
 apply Classical.byContradiction
 intro e
 have:=(h.lt k e).2
 omega
theorem Q3.rest (h:Q3 w0 wr b c j jw W F) {O:Nat->Prop} (ho:Qg O wr wz) {l1 l2:Kr} (hO:∀ k,O k->F.ow k=l1 \/ F.ow k=l2) (n1:∀ g,l1 ≠ .mach g) (n2:∀ g,l2 ≠ .mach g) (h1:l1 ≠ .no) (h2:l2 ≠ .no) :
  Below w0.heap.size w0 wz/\∀ g:Nat,g<j->∃ E ov os,ZW wz w0.heap.size (F.ps g) c g (2 * W.cnt g) (F.labs g) (W.m g) E ov os:=by
 have hOb:∀ k,O k->w0.heap.size<=k:=fun k hk=>(h.lt k (by rcases hO k hk with e | e <;> (rw [e];assumption))).1
 refine ⟨h.b0.trans (ho.below h.b0.size hOb),fun g hg=>?_⟩
 obtain ⟨E,ov,os,hm⟩:=h.m g hg
 refine ⟨E,ov,os,hm.out ho (fun k hk z=>?_) hOb⟩
 have:=h.lmach g hg k hk
 rcases hO k z with e | e
 ·rw [this] at e;exact n1 g e.symm
 ·rw [this] at e;exact n2 g e.symm
theorem Q3.outs (h:Q3 w0 wr b c j jw W F) {O:Nat->Prop} (ho:Qg O wr wz) {l1 l2:Kr} (hO:∀ k,O k->F.ow k=l1 \/ F.ow k=l2) (n1:∀ g,l1 ≠ .mach g) (n2:∀ g,l2 ≠ .mach g) {g:Nat} (hg:g<j) {v:Value} {os:List Qv} (hr:Q8 wr w0.heap.size (F.labs g) v os):Q8 wz w0.heap.size (F.labs g) v os :=
 ⟨ho.row hr.1 (fun k e z=>by
  have:=h.lmach g hg k (by rw [hr.2 k e];decide)
  rcases hO k z with q | q
  ·rw [this] at q;exact n1 g q.symm
  ·rw [this] at q;exact n2 g q.symm),hr.2⟩
theorem Q3.addM (h : Q3 w0 wr b c j jw W F) {p : Nat} {lab : Nat -> QL} (hM : ∃ E ov os, ZW wr w0.heap.size p c (j : Nat) (2 * W.cnt j) lab (W.m j) E ov os) (hf : ∀ k, lab k ≠ .no -> F.ow k = .no) {o : Obj} {mv' : Value}
    (hg : (wr.alloc o).grownBy w3 F.mv.ownBlock) (hr : w3.ownsRow w0.heap.size 29 1 mv' (j + 1) (((List.range j).map fun g => .pointer (some ⟨F.ps g, 0, none⟩)) ++ [.pointer (some ⟨p, 0, none⟩)]))
    (hv : mv'.ownBlock = F.mv.ownBlock \/ mv'.ownBlock = some (wr.alloc o).heap.size) : ∃ F' : Xe, Q3 w0 (w3.setCell ⟨b, 2, none⟩ mv') b c (j + 1) jw W F' /\ F'.A = F.A /\ F'.A' = F.A' := by
  have ho3 : Qg (fun k => F.mv.ownBlock = some k) wr w3 := (Qg.of_below (Qc wr o)).trans' (Qg.of_grown hg (fun k e => e))
  have ho : Qg (fun k => k = b \/ F.mv.ownBlock = some k) wr (w3.setCell ⟨b, 2, none⟩ mv') := (ho3.mono fun k e => .inr e).trans' ((QQ w3 b 2 mv').mono fun k e => .inl e)
  have hO : ∀ k, (k = b \/ F.mv.ownBlock = some k) -> F.ow k = .wrd \/ F.ow k = .mrow := fun k e => e.elim (fun e => .inl (by rw [e]; exact h.lb)) (fun e => .inr (h.lm k e))
  obtain ⟨r1, r2⟩ := h.rest ho hO (fun g z => by cases z) (fun g z => by cases z) (by decide) (by decide)
  have hne : ∀ k, F.ow k ≠ .wrd -> F.ow k ≠ .mrow -> ¬ (k = b \/ F.mv.ownBlock = some k) := fun k h1 h2 e => (hO k e).elim h1 h2
  have hsz : (wr.alloc o).heap.size = wr.heap.size + 1 := by simp
  have hs3 : (wr.alloc o).heap.size <= w3.heap.size := hg.size
  have hbn := h.bown
  have hmb : ∀ k, mv'.ownBlock = some k -> k ≠ b := fun k e z => by
    rcases hv with q | q
    · rw [q] at e
      have := h.lm k e
      rw [z, h.lb] at this; cases this
    · rw [q] at e; cases e
      omega
  have hset : (w3.setCell ⟨b, 2, none⟩ mv').heap.size = w3.heap.size := by simp
  obtain ⟨E, ov, os, hm⟩ := hM
  refine ⟨{ F with mv := mv', ps := fun g => if g = j then p else F.ps g, labs := fun g => if g = j then lab else F.labs g, ow := fun k => if lab k ≠ .no then .mach j else if wr.heap.size <= k /\ k < w3.heap.size then .mrow else F.ow k }, ?_, rfl, rfl⟩
  have how : ∀ k, F.ow k ≠ .no -> (if lab k ≠ .no then Kr.mach j else if wr.heap.size <= k /\ k < w3.heap.size then .mrow else F.ow k) = F.ow k := fun k hk => by
    have h1 : ¬ (lab k ≠ .no) := fun z => hk (hf k z)
    have h2 : ¬ (wr.heap.size <= k /\ k < w3.heap.size) := fun z => hk (h.fresh z.1)
    rw [if_neg h1, if_neg h2]
  exact {
    cf := h.cf
    b0 := r1
    blk := by
      have := ZJ (j := 2) mv' (ho3.obj h.blk (fun e => by have := h.lm b e; rw [h.lb] at this; cases this))
      simpa using this
    lb := by show (if _ then _ else _) = _; rw [how b (by rw [h.lb]; decide)]; exact h.lb
    mr := by
      have h1 := (QQ w3 b 2 mv').row hr (fun k e z => hmb k e z)
      rw [List.range_succ, List.map_append, List.map_singleton]
      have e1 : ((List.range j).map fun g => Value.pointer (some ⟨if g = j then p else F.ps g, 0, none⟩)) = (List.range j).map fun g => .pointer (some ⟨F.ps g, 0, none⟩) := List.map_congr_left (fun g hgj => by rw [if_neg (by have := List.mem_range.1 hgj; omega)])
      show (w3.setCell ⟨b, 2, none⟩ mv').ownsRow w0.heap.size _ 1 mv' (j + 1) (((List.range j).map fun g => Value.pointer (some ⟨if g = j then p else F.ps g, 0, none⟩)) ++ [Value.pointer (some ⟨if j = j then p else F.ps j, 0, none⟩)])
      rw [e1, if_pos rfl]
      exact h1
    lm := fun k e => by
      show (if _ then _ else _) = _
      rcases hv with q | q
      · have e' : mv'.ownBlock = some k := e
        rw [q] at e'
        have := h.lm k e'
        rw [how k (by rw [this]; decide)]; exact this
      · have e' : mv'.ownBlock = some k := e
        have hlt := QaM hr e'
        rw [q] at e'; cases e'
        have h1 : ¬ (lab (wr.alloc o).heap.size ≠ .no) := fun z => by have := hm.lt _ z; omega
        rw [if_neg h1, if_pos ⟨by omega, hlt.2⟩]
    wrr := ho.row h.wrr (fun k e => hne k (by rw [h.lw k e]; decide) (by rw [h.lw k e]; decide))
    lw := fun k e => by
      have := h.lw k e
      show (if _ then _ else _) = _
      rw [how k (by rw [this]; decide)]; exact this
    way := fun x hx => ho.row (h.way x hx) (fun k e => hne k (by rw [h.lway x hx k e]; intro z; cases z) (by rw [h.lway x hx k e]; intro z; cases z))
    lway := fun x hx k e => by
      have := h.lway x hx k e
      show (if _ then _ else _) = _
      rw [how k (by rw [this]; intro z; cases z)]; exact this
    m := fun g hgj => by
      show ∃ E ov os, ZW _ w0.heap.size (if g = j then p else F.ps g) c g (2 * W.cnt g) (if g = j then lab else F.labs g) (W.m g) E ov os
      by_cases e : g = j
      · subst e
        rw [if_pos rfl, if_pos rfl]
        refine ⟨E, ov, os, hm.out ho (fun k hk z => ?_) (fun k hk => ?_)⟩
        · have := hf k hk
          rcases hO k z with q | q <;> (rw [this] at q; cases q)
        · exact (h.lt k (by rcases hO k hk with q | q <;> (rw [q]; decide))).1
      · rw [if_neg e, if_neg e]
        exact r2 g (by omega)
    lmach := fun g hgj k hk => by
      have hk' : (if g = j then lab else F.labs g) k ≠ .no := hk
      show (if _ then _ else _) = _
      by_cases e : g = j
      · subst e
        rw [if_pos rfl] at hk'
        rw [if_pos hk']
      · rw [if_neg e] at hk'
        have := h.lmach g (by omega) k hk'
        rw [how k (by rw [this]; intro z; cases z)]; exact this
    lt := fun k hk => by
      have hk' : (if lab k ≠ .no then Kr.mach j else if wr.heap.size <= k /\ k < w3.heap.size then .mrow else F.ow k) ≠ .no := hk
      show _ /\ k < (w3.setCell ⟨b, 2, none⟩ mv').heap.size
      rw [hset]
      have hws := h.b0.size
      by_cases h1 : lab k ≠ .no
      · have := hm.m.lt k h1; omega
      · rw [if_neg h1] at hk'
        by_cases h2 : wr.heap.size <= k /\ k < w3.heap.size
        · omega
        · rw [if_neg h2] at hk'
          have := h.lt k hk'; omega }
theorem Q3.addW (h : Q3 w0 wr b c j jw W F) (hw : W.way jw = []) {o : Obj} {wv' : Value}
    (hg : (wr.alloc o).grownBy w3 F.wv.ownBlock) (hr : w3.ownsRow w0.heap.size 26 1 wv' (jw + 1) (((List.range jw).map F.av) ++ [.slice none 0 0]))
    (hv : wv'.ownBlock = F.wv.ownBlock \/ wv'.ownBlock = some (wr.alloc o).heap.size) : ∃ F' : Xe, Q3 w0 (w3.setCell ⟨b, 3, none⟩ wv') b c j (jw + 1) W F' /\ F'.A = F.A /\ F'.A' = F.A' := by
  have ho3 : Qg (fun k => F.wv.ownBlock = some k) wr w3 := (Qg.of_below (Qc wr o)).trans' (Qg.of_grown hg (fun k e => e))
  have ho : Qg (fun k => k = b \/ F.wv.ownBlock = some k) wr (w3.setCell ⟨b, 3, none⟩ wv') := (ho3.mono fun k e => .inr e).trans' ((QQ w3 b 3 wv').mono fun k e => .inl e)
  have hO : ∀ k, (k = b \/ F.wv.ownBlock = some k) -> F.ow k = .wrd \/ F.ow k = .wrow := fun k e => e.elim (fun e => .inl (by rw [e]; exact h.lb)) (fun e => .inr (h.lw k e))
  obtain ⟨r1, r2⟩ := h.rest ho hO (fun g z => by cases z) (fun g z => by cases z) (by decide) (by decide)
  have hne : ∀ k, F.ow k ≠ .wrd -> F.ow k ≠ .wrow -> ¬ (k = b \/ F.wv.ownBlock = some k) := fun k h1 h2 e => (hO k e).elim h1 h2
  have hsz : (wr.alloc o).heap.size = wr.heap.size + 1 := by simp
  have hs3 : (wr.alloc o).heap.size <= w3.heap.size := hg.size
  have hbn := h.bown
  have hmb : ∀ k, wv'.ownBlock = some k -> k ≠ b := fun k e z => by
    rcases hv with q | q
    · rw [q] at e
      have := h.lw k e
      rw [z, h.lb] at this; cases this
    · rw [q] at e; cases e
      omega
  have hset : (w3.setCell ⟨b, 3, none⟩ wv').heap.size = w3.heap.size := by simp
  have how : ∀ k, F.ow k ≠ .no -> (if wr.heap.size <= k /\ k < w3.heap.size then .wrow else F.ow k) = F.ow k := fun k hk => by
    have h2 : ¬ (wr.heap.size <= k /\ k < w3.heap.size) := fun z => hk (h.fresh z.1)
    rw [if_neg h2]
  refine ⟨{ F with wv := wv', av := fun x => if x = jw then .slice none 0 0 else F.av x, ow := fun k => if wr.heap.size <= k /\ k < w3.heap.size then .wrow else F.ow k }, ?_, rfl, rfl⟩
  exact {
    cf := h.cf
    b0 := r1
    blk := by
      have := ZJ (j := 3) wv' (ho3.obj h.blk (fun e => by have := h.lw b e; rw [h.lb] at this; cases this))
      simpa using this
    lb := by show (if _ then _ else _) = _; rw [how b (by rw [h.lb]; decide)]; exact h.lb
    mr := ho.row h.mr (fun k e => hne k (by rw [h.lm k e]; decide) (by rw [h.lm k e]; decide))
    lm := fun k e => by
      have := h.lm k e
      show (if _ then _ else _) = _
      rw [how k (by rw [this]; decide)]; exact this
    wrr := by
      have h1 := (QQ w3 b 3 wv').row hr (fun k e z => hmb k e z)
      rw [List.range_succ, List.map_append, List.map_singleton]
      have e1 : ((List.range jw).map fun x => if x = jw then Value.slice none 0 0 else F.av x) = (List.range jw).map F.av := List.map_congr_left (fun g hgj => by rw [if_neg (by have := List.mem_range.1 hgj; omega)])
      show (w3.setCell ⟨b, 3, none⟩ wv').ownsRow w0.heap.size _ 1 wv' (jw + 1) (((List.range jw).map fun x => if x = jw then Value.slice none 0 0 else F.av x) ++ [if jw = jw then Value.slice none 0 0 else F.av jw])
      rw [e1, if_pos rfl]
      exact h1
    lw := fun k e => by
      show (if _ then _ else _) = _
      rcases hv with q | q
      · have e' : wv'.ownBlock = some k := e
        rw [q] at e'
        have := h.lw k e'
        rw [how k (by rw [this]; decide)]; exact this
      · have e' : wv'.ownBlock = some k := e
        have hlt := QaM hr e'
        rw [q] at e'; cases e'
        rw [if_pos ⟨by omega, hlt.2⟩]
    way := fun x hx => by
      show World.ownsRow _ _ _ 10 (if x = jw then Value.slice none 0 0 else F.av x) _ _
      by_cases e : x = jw
      · rw [if_pos e, e, hw]; exact Q7 _ _ _ _
      · rw [if_neg e]
        have hx' : x < jw := by omega
        exact ho.row (h.way x hx') (fun k e => hne k (by rw [h.lway x hx' k e]; intro z; cases z) (by rw [h.lway x hx' k e]; intro z; cases z))
    lway := fun x hx k e => by
      have e' : (if x = jw then Value.slice none 0 0 else F.av x).ownBlock = some k := e
      show (if _ then _ else _) = _
      by_cases ex : x = jw
      · rw [if_pos ex] at e'; cases e'
      · rw [if_neg ex] at e'
        have := h.lway x (by omega) k e'
        rw [how k (by rw [this]; intro z; cases z)]; exact this
    m := r2
    lmach := fun g hgj k hk => by
      have := h.lmach g hgj k hk
      show (if _ then _ else _) = _
      rw [how k (by rw [this]; intro z; cases z)]; exact this
    lt := fun k hk => by
      have hk' : (if wr.heap.size <= k /\ k < w3.heap.size then Kr.wrow else F.ow k) ≠ .no := hk
      show _ /\ k < (w3.setCell ⟨b, 3, none⟩ wv').heap.size
      rw [hset]
      have hws := h.b0.size
      by_cases h2 : wr.heap.size <= k /\ k < w3.heap.size
      · omega
      · rw [if_neg h2] at hk'
        have := h.lt k hk'; omega }
def Qfc (W:Wd) (x:Nat) (a:Q2):Wd:={ W with way:=fun h=>if h=x then W.way h ++ [a] else W.way h }
theorem Q3.push (h : Q3 w0 wr b c j jw W F) {x : Nat} (hx : x < jw) {a : Q2} {bm cap : Nat} (hw : F.wv = .slice (some ⟨bm, 0, none⟩) jw cap) {v' : Value} {g : Nat} (hgj : g < j) {v : Value} {os : List Qv} (hO : Q8 wr w0.heap.size (F.labs g) v os)
    (hg : wr.grownBy w3 (F.av x).ownBlock) (hr : w3.ownsRow w0.heap.size 41 10 v' ((W.way x).length + 1) (KR (W.way x) ++ a.vs.toList))
    (hv : v'.ownBlock = (F.av x).ownBlock \/ v'.ownBlock = some wr.heap.size) : ∃ F' : Xe, Q3 w0 (w3.setCell ⟨bm, x, none⟩ v') b c j jw (Qfc W x a) F' /\ Q8 (w3.setCell ⟨bm, x, none⟩ v') w0.heap.size (F'.labs g) v os /\ Zt wr (w3.setCell ⟨bm, x, none⟩ v') F F' := by
  have hbm : F.ow bm = .wrow := h.lw bm (by rw [hw]; rfl)
  have ho3 : Qg (fun k => (F.av x).ownBlock = some k) wr w3 := Qg.of_grown hg (fun k e => e)
  have ho : Qg (fun k => k = bm \/ (F.av x).ownBlock = some k) wr (w3.setCell ⟨bm, x, none⟩ v') := (ho3.mono fun k e => .inr e).trans' ((QQ w3 bm x v').mono fun k e => .inl e)
  have hOO : ∀ k, (k = bm \/ (F.av x).ownBlock = some k) -> F.ow k = .wrow \/ F.ow k = .way x := fun k e => e.elim (fun e => .inl (by rw [e]; exact hbm)) (fun e => .inr (h.lway x hx k e))
  obtain ⟨r1, r2⟩ := h.rest ho hOO (fun g z => by cases z) (fun g z => by cases z) (by decide) (by intro z; cases z)
  have hne : ∀ k, F.ow k ≠ .wrow -> F.ow k ≠ .way x -> ¬ (k = bm \/ (F.av x).ownBlock = some k) := fun k h1 h2 e => (hOO k e).elim h1 h2
  have hs3 : wr.heap.size <= w3.heap.size := hg.size
  have hbml : bm < wr.heap.size := (h.lt bm (by rw [hbm]; decide)).2
  have hmb : ∀ k, v'.ownBlock = some k -> k ≠ bm := fun k e z => by
    rcases hv with q | q
    · rw [q] at e
      have := h.lway x hx k e
      rw [z, hbm] at this; cases this
    · rw [q] at e; cases e
      omega
  have hset : (w3.setCell ⟨bm, x, none⟩ v').heap.size = w3.heap.size := by simp
  have how : ∀ k, F.ow k ≠ .no -> (if wr.heap.size <= k /\ k < w3.heap.size then .way x else F.ow k) = F.ow k := fun k hk => by
    have h2 : ¬ (wr.heap.size <= k /\ k < w3.heap.size) := fun z => hk (h.fresh z.1)
    rw [if_neg h2]
  refine ⟨{ F with av := fun y => if y = x then v' else F.av y, ow := fun k => if wr.heap.size <= k /\ k < w3.heap.size then .way x else F.ow k }, ?_, h.outs ho hOO (fun g z => by cases z) (fun g z => by cases z) hgj hO, ⟨ho.mono fun k e => (by rcases hOO k e with q | q <;> (rw [q]; intro z; cases z)), fun k hk e => by show (if _ then _ else _) = _; rw [if_neg (by omega)]; exact e⟩⟩
  exact {
    cf := h.cf
    b0 := r1
    blk := ho.obj h.blk (hne b (by rw [h.lb]; decide) (by rw [h.lb]; intro z; cases z))
    lb := by show (if _ then _ else _) = _; rw [how b (by rw [h.lb]; decide)]; exact h.lb
    mr := ho.row h.mr (fun k e => hne k (by rw [h.lm k e]; decide) (by rw [h.lm k e]; intro z; cases z))
    lm := fun k e => by
      have := h.lm k e
      show (if _ then _ else _) = _
      rw [how k (by rw [this]; decide)]; exact this
    wrr := by
      have h1 := ho3.row h.wrr (fun k e z => by
        have q1 := h.lw k e
        rw [h.lway x hx k z] at q1; cases q1)
      have h2 : w3.ownsRow w0.heap.size 26 1 (.slice (some ⟨bm, 0, none⟩) jw cap) jw ((List.range jw).map F.av) := by rw [<- hw]; exact h1
      have h3 := Ql2 (j := x) v' h2
      rw [Ql3] at h3
      rw [<- hw] at h3
      exact h3
    lw := fun k e => by
      have := h.lw k e
      show (if _ then _ else _) = _
      rw [how k (by rw [this]; decide)]; exact this
    way := fun y hy => by
      show World.ownsRow _ _ _ 10 (if y = x then v' else F.av y) (if y = x then W.way y ++ [a] else W.way y).length (KR (if y = x then W.way y ++ [a] else W.way y))
      by_cases e : y = x
      · subst e
        rw [if_pos rfl, if_pos rfl, List.length_append, List.length_singleton, Qgt]
        exact (QQ w3 bm y v').row hr (fun k e z => hmb k e z)
      · rw [if_neg e, if_neg e]
        exact ho.row (h.way y hy) (fun k e2 => hne k (by rw [h.lway y hy k e2]; intro z; cases z) (by rw [h.lway y hy k e2]; intro z; cases z; exact e rfl))
    lway := fun y hy k e => by
      have e' : (if y = x then v' else F.av y).ownBlock = some k := e
      show (if _ then _ else _) = _
      by_cases ex : y = x
      · subst ex
        rw [if_pos rfl] at e'
        rcases hv with q | q
        · rw [q] at e'
          have := h.lway y hy k e'
          rw [how k (by rw [this]; intro z; cases z)]; exact this
        · have hlt := QaM hr e'
          rw [q] at e'; cases e'
          rw [if_pos ⟨Nat.le_refl _, hlt.2⟩]
      · rw [if_neg ex] at e'
        have := h.lway y hy k e'
        rw [how k (by rw [this]; intro z; cases z)]; exact this
    m := r2
    lmach := fun g hgj k hk => by
      have := h.lmach g hgj k hk
      show (if _ then _ else _) = _
      rw [how k (by rw [this]; intro z; cases z)]; exact this
    lt := fun k hk => by
      have hk' : (if wr.heap.size <= k /\ k < w3.heap.size then Kr.way x else F.ow k) ≠ .no := hk
      show _ /\ k < (w3.setCell ⟨bm, x, none⟩ v').heap.size
      rw [hset]
      have hws := h.b0.size
      by_cases h2 : wr.heap.size <= k /\ k < w3.heap.size
      · omega
      · rw [if_neg h2] at hk'
        have := h.lt k hk'; omega }
theorem Q3.start {w0 wr : World} (hb : Below w0.heap.size w0 wr) {b : Nat} (hB : w0.heap.size <= b) {A A' : Option Addr} {ca cb : Nat} (hcf : Z9 w0 c A A') (hk : wr.heap[b]? = some (.cells #[.slice A c.reps.length ca, .slice A' c.bnds.length cb, .slice none 0 0, .slice none 0 0] 57 (0, 0))) :
    Q3 w0 wr b c 0 0 Yu ⟨A, A', ca, cb, .slice none 0 0, .slice none 0 0, fun _ => 0, fun _ => .slice none 0 0, fun _ _ => .no, fun k => if k = b then .wrd else .no⟩ :=
  { b0 := hb, cf := hcf, blk := hk, lb := if_pos rfl, mr := Q7 _ _ _ _, lm := fun k e => (by cases e), wrr := Q7 _ _ _ _, lw := fun k e => (by cases e), way := fun h hh => (by omega), lway := fun h hh => (by omega), m := fun g hg => (by omega), lmach := fun g hg => (by omega)
    lt := fun k hk' => by
      have hk2 : (if k = b then Kr.wrd else .no) ≠ .no := hk'
      by_cases e : k = b
      · subst e
        exact ⟨hB, (Array.getElem?_eq_some_iff.1 hk).1⟩
      · rw [if_neg e] at hk2; exact absurd rfl hk2 }
end
end Go.Proofs.YtcldpmkhpmlcbaaGreatDoor
