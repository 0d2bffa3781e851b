/- part -/
import Derived.Test.YtcldpmkhpmlcbaaGreatDoorQBeg15
import Derived.StillTailTactics
import Derived.Deep.CutRange
set_option linter.unusedVariables false
set_option linter.unusedSimpArgs false
namespace Go.Proofs.YtcldpmkhpmlcbaaGreatDoor
open Go.RowKit Go.Shelf Go.Lib
theorem Qlp {a b:Nat} (h:a=b):Ending.returned (.tuple #[.int .u64 (b:Int),.bool true]) = .returned (.tuple #[.int .u64 (a:Int),.bool true]):=by rw [h]
theorem Qo7 {w:World} {B p:Nat} {x:QD} {v:Value} {es:List QK} {O:Nat->Prop} (h:ZE w B p x v es O) {i:Qp} (hh:Zn x i=true) (hlen:x.l.length<900000) :
  Calls Tryz.prog 142 #[.pointer (some ⟨p,0,none⟩),.agg #[.int .i64 i.ses,.int .i64 i.seq]] w fun e w'=>e = .returned (.tuple #[.int .u64 ((Zo x i).own:Int),.bool true])/\Below w.heap.size w w':=by
 obtain ⟨W,eW,HB,b0,b1⟩:=Y5 w (.int .i64 i.ses) (.int .i64 i.seq) 34
 have H:=Lib.hid (h.later HB)
 clear h
 have HF:=Lib.hid hh
 have hlt:ZA x.l i<es.length:=by rw [H.out.len];simpa [Zn] using hh
 obtain ⟨en,hen⟩:∃ en,es.getD (ZA x.l i) default=en:=⟨_,rfl⟩
 have hOne:=H.out.one _ (Kd hlt)
 have ho:=H.out.at_o hlt
 rw [hen] at hOne ho
 obtain ⟨ep,emb,egv,eo⟩:=en
 dsimp only at hOne ho
 obtain ⟨_,_,_,c3,_⟩:=hOne.cs
 have HO:Hid ((Zo x i).own=eo.own):=by show _=_;rw [Zo, <- ho]
 have HV:Hid ((if Zn x i=true then (es.getD (ZA x.l i) default).ptr else Value.pointer none) = .pointer (some ⟨ep,0,none⟩)):=by show _=_;rw [if_pos hh,hen];rfl
 clear hh hlt hen hOne ho
 go_enter Tryz.func142,Tryz.ntmps142
 go_wp2_with (go_at_call 144;(with_reducible refine (Kw H.out i (by omega)).mono ?_);rintro e w2 ⟨rfl,hb2⟩;rw [HV.out];have d3:=keep hb2 c3;clear c3)
 go_ret2
 exact ⟨Qlp HO.out,Qa HB hb2⟩
def JJ (x:QD):Value:=match Z2 x with
 | none=>.tuple #[.agg #[.int .i64 0,.int .i64 0],.int .u64 0,.bool false]
 | some (i,s)=>.tuple #[.agg #[.int .i64 i.ses,.int .i64 i.seq],.int .u64 (s:Int),.bool true]
theorem Kp {P:Program} {fn:Func} {p u v:Tmp} {ty:TypeId} (h:fn.results=#[.cell p ty,.tmp u,.tmp v]) (tmps:Array Value) (w:World) (g:Nat) (t:TypeId) (cs:Array Value) (fr:Nat × Nat) (d:TypeDesc)
  (hp:tmps.getD p undef = .pointer (some ⟨g,0,none⟩)) (hg:w.heap[g]? = some (.cells cs t fr))
  (hu:P.underlying ty=some d) (hd:(match d with | .struct _ | .array _ _=>true | _=>false)=true) (hi:(P.info? ty).map (·.size)=some cs.size) :
  (results fn tmps).run P w = .ok (.tuple #[.agg cs,tmps.getD u undef,tmps.getD v undef]) w:=by
 have hp':tmps[p]?.getD undef = .pointer (some ⟨g,0,none⟩):=by simpa using hp
 simp [results,h,hp',asAddr,run_loadVar_row w g t ty cs fr d hg hu hd hi]
theorem Qb0:(Tryz.prog.info? 34).map (·.size)=some 2:=by kernel_rfl
theorem Qdq {w:World} {g:Nat} {a b a' b':Value} {t:TypeId} (h:w.heap[g]? = some (.cells #[a',b'] t (0,0))):((w.setCell ⟨g,0,none⟩ a).setCell ⟨g,1,none⟩ b).heap[g]? = some (.cells #[a,b] t (0,0)):=by
 rw [ZJ _ (ZJ _ h)];rfl
theorem UV {w W:World} {g:Nat} (h:Below w.heap.size w W) (hg:w.heap.size<=g) (a b:Value):Below w.heap.size w ((W.setCell ⟨g,0,none⟩ a).setCell ⟨g,1,none⟩ b) :=
 (h.setCell hg _).setCell hg _
set_option maxHeartbeats 2000000 in
theorem Qlq {w:World} {B p:Nat} {x:QD} {v:Value} {es:List QK} {O:Nat->Prop} (h:ZE w B p x v es O) (hx:Jc x) :
  Calls Tryz.prog 91 #[.pointer (some ⟨p,0,none⟩)] w fun e w'=>e = .returned (JJ x)/\Below w.heap.size w w':=by
 obtain ⟨W,eW,HB,b0,b1⟩:=Y5 w (.int .i64 0) (.int .i64 0) 34
 have hbW:W.heap[w.heap.size]? = some (.cells #[.int .i64 0,.int .i64 0] 34 (0,0)):=by rw [<- eW];exact heap_alloc_new w _
 have fz0:=frozen_of_row W w.heap.size 0 _ _ hbW
 have fz1:=frozen_of_row W w.heap.size 1 _ _ hbW
 have h0:=h
 have h:=h.later HB
 obtain ⟨c0,c1,c2⟩:=h.cs
 obtain ⟨A,cap,rfl,_,hA⟩:=h.at_
 cases es with
 | nil =>
  have HS:Hid (JJ x = .tuple #[.agg #[.int .i64 0,.int .i64 0],.int .u64 0,.bool false]):=by
   show _=_
   have:=h.eq
   simp at this
   rw [JJ,Z2,this]
  have hbW':=Lib.hid hbW
  clear h hA hbW
  go_enter Tryz.func91,Tryz.ntmps91
  go_wp2
  refine bodyPost_ret (Kp rfl _ _ w.heap.size _ #[.int .i64 0,.int .i64 0] _ _ rfl (Qdq hbW'.out) Tryz.underlying34 rfl Qb0) rfl ?_
  exact ⟨by rw [HS.out];rfl,UV HB (Nat.le_refl _) _ _⟩
 | cons en es =>
  obtain ⟨g,off,rfl,d0⟩:=hA 0 (by simp)
  have hl:=h.eq
  have hmem:en.o ∈ x.l:=by rw [<- hl];simp
  have hOk:=hx.one _ hmem
  have HT:=Lib.hid (h.one en (by simp))
  have hnd:=Lib.hid hOk.nd
  obtain ⟨ln,hln⟩:∃ ln,(en :: es).length=ln:=⟨_,rfl⟩
  have hln0:0<ln:=by rw [<- hln];simp
  rw [hln] at c2
  have hlnk:=Lib.hid hln
  have hln1:((ln:Int) == 0)=false:=by rw [beq_eq_false_iff_ne];omega
  have d0':W.cell? ⟨g,off,none⟩=some (.pointer (some ⟨en.p,0,none⟩)):=d0
  obtain ⟨ep,emb,egv,eo⟩:=en
  dsimp only at HT hnd hl d0'
  obtain ⟨e0,e1,_,_,_,e5⟩:=HT.out.cs
  obtain ⟨fi,hfi⟩:∃ fi,eo.final=fi:=⟨_,rfl⟩
  rw [hfi] at e5
  have hHB:=Lib.hid HB
  cases fi
  ·have HS:Hid (JJ x = .tuple #[.agg #[.int .i64 0,.int .i64 0],.int .u64 0,.bool false]):=by
    show _=_
    rw [JJ,Z2, <- hl]
    simp [hfi]
   have hbW':=Lib.hid hbW
   clear h hA hbW hl hmem hOk hfi d0 hln
   go_enter Tryz.func91,Tryz.ntmps91
   go_wp2
   refine bodyPost_ret (Kp rfl _ _ w.heap.size _ #[.int .i64 0,.int .i64 0] _ _ rfl (Qdq hbW'.out) Tryz.underlying34 rfl Qb0) rfl ?_
   exact ⟨by rw [HS.out];rfl,UV HB (Nat.le_refl _) _ _⟩
  ·have HS:Hid (JJ x = .tuple #[.agg #[.int .i64 eo.id.ses,.int .i64 eo.id.seq],.int .u64 (eo.stamp:Int),.bool true]):=by
    show _=_
    rw [JJ,Z2, <- hl]
    simp [hfi]
   have hbW':=Lib.hid hbW
   clear h hA hbW hl hmem hOk hfi d0 hln
   obtain ⟨st,hst⟩:∃ st,eo.stamp=st:=⟨_,rfl⟩
   rw [hst] at HS
   obtain ⟨_,_,c2w⟩:=h0.cs
   obtain ⟨A',cap',eA,_,hA'⟩:=h0.at_
   cases eA
   obtain ⟨g',off',eg,d0w⟩:=hA' 0 (by simp)
   cases eg
   have d0w':w.cell? ⟨g,off,none⟩=some (.pointer (some ⟨ep,0,none⟩)):=d0w
   obtain ⟨e0w,e1w,_⟩:=(h0.one _ (List.mem_cons_self ..)).cs
   dsimp only at e0w e1w
   have hszW:Hid (w.heap.size<W.heap.size):=by show _<_;rw [<- eW];simp
   obtain ⟨s0,hs0⟩:∃ s0,eo.id.ses=s0:=⟨_,rfl⟩
   obtain ⟨s1,hs1⟩:∃ s1,eo.id.seq=s1:=⟨_,rfl⟩
   rw [hs0] at e0 e0w HS
   rw [hs1] at e1 e1w HS
   have HST:Hid (∀ wz,Below W.heap.size W wz->Calls Tryz.prog 105 #[.pointer (some ⟨ep,0,none⟩)] wz (Qd5 wz (.int .u64 (st:Int)))):=fun wz hb=>by
    have:=UC (HT.out.later hb) hnd.out
    rw [hst] at this
    exact this
   have hln':Hid (({ p:=ep,mb:=emb,gv:=egv,o:=eo } :: es:List QK).length=ln):=hlnk.out
   rw [hln'.out] at c2w
   have HST2:=Lib.hid (HST.out W.drew (Qb (Below.refl W.heap.size W)))
   clear hs0 hs1 hst h0 hA' d0w
   go_enter Tryz.func91,Tryz.ntmps91
   go_wp2
   go_region_held3 (fun w'=>w'.cell? ⟨p,2,none⟩=some (.slice (some ⟨g,off,none⟩) ln cap)/\w'.cell? ⟨g,off,none⟩=some (.pointer (some ⟨ep,0,none⟩))/\w'.cell? ⟨ep,0,none⟩=some (.int .i64 s0)/\w'.cell? ⟨ep,1,none⟩=some (.int .i64 s1)/\Below w.heap.size w w')
    (first | exact ⟨c2,d0',e0,e1,Qb HB⟩ | exact ⟨keep hB2 c2w,keep hB2 d0w',keep hB2 e0w,keep hB2 e1w,hB2⟩ | exact ⟨keep hB3 c2w,keep hB3 d0w',keep hB3 e0w,keep hB3 e1w,hB3⟩)
    ((go_at_call 105;refine HST2.out.mono ?_;rintro e w2 ⟨rfl,hb2⟩;have hB2:Below w.heap.size w w2:=Qa HB (Qa (Qb (Below.refl W.heap.size W)) hb2.b);have hq2:w2.heap[w.heap.size]? = some (.cells #[.int .i64 0,.int .i64 0] 34 (0,0)):=(by rw [hb2.b.block w.heap.size hszW.out];first | done | exact hbW'.out);have hd0:w2.cell? ⟨w.heap.size,0,none⟩=some (.int .i64 0):=(by rw [cell_of_row w2 _ _ _ _ _ hq2];rfl);have hd1:w2.cell? ⟨w.heap.size,1,none⟩=some (.int .i64 0):=(by rw [cell_of_row w2 _ _ _ _ _ hq2];rfl);have hf0:=frozen_of_row w2 w.heap.size 0 _ _ hq2;have hf1:=frozen_of_row w2 w.heap.size 1 _ _ hq2;have hB3:=UV hB2 (Nat.le_refl w.heap.size) (Value.int .i64 s0) (Value.int .i64 s1)))
   go_wp2
   refine bodyPost_ret (Kp rfl _ _ w.heap.size _ #[.int .i64 s0,.int .i64 s1] _ _ rfl (Qdq hq2) Tryz.underlying34 rfl Qb0) rfl ?_
   exact ⟨by rw [HS.out];rfl,hB3⟩
theorem ZE.pop {w:World} {B p:Nat} {x:QD} {v v':Value} {en:QK} {es:List QK} {O:Nat->Prop} (h:ZE w B p x v (en :: es) O) (hr:QC w B 191 v' (es.map QK.ptr)) (hv:∀ g,v'.ownBlock=some g->v.ownBlock=some g) :
  ZE (w.setCell ⟨p,2,none⟩ v') B p (YV x) v' es O:=by
 have ho:=QQ w p 2 v'
 have hb:=ZJ (j:=2) v' h.blk
 have hm:∀ e ∈ es,e ∈ en :: es:=fun e he=>List.mem_cons_of_mem _ he
 have hnp:=h.np
 have hnm:=h.nm
 simp only [List.map_cons,List.nodup_cons] at hnp hnm
 exact { blk:=hb,row:=hr.out ho (fun g hg e=>hr.ne h.blk (by decide) hg e),eq:=by rw [YV, <- h.eq];rfl,one:=fun e he=>(h.one e (hm e he)).past_q h.blk ho,np:=hnp.2,nm:=hnm.2,hp:=h.hp,mv:=fun g hg=>h.mv g (hv g hg),me:=fun e he=>h.me e (hm e he),lt:=fun k hk=>⟨(h.lt k hk).1,Nat.lt_of_lt_of_le (h.lt k hk).2 ho.size⟩ }
set_option maxHeartbeats 2000000 in
theorem Qoz {w:World} {B p:Nat} {x:QD} {v:Value} {es:List QK} {O:Nat->Prop} (h:ZE w B p x v es O) (hx:Jc x) {i:Qp} {s:Nat} (hn:Z2 x=some (i,s)) :
  Calls Tryz.prog 97 #[.pointer (some ⟨p,0,none⟩),.agg #[.int .i64 i.ses,.int .i64 i.seq]] w (VQ w B p (YV x) O (.bool true)):=by
 obtain ⟨W,eW,HB,b0,b1⟩:=Y5 w (.int .i64 i.ses) (.int .i64 i.seq) 34
 have HN:Hid (JJ x = .tuple #[.agg #[.int .i64 i.ses,.int .i64 i.seq],.int .u64 (s:Int),.bool true]):=by show _=_;rw [JJ,hn]
 have H:=Lib.hid (h.later HB)
 have h0:=Lib.hid h
 have HX:=Lib.hid hx
 cases es with
 | nil =>
  have:=h.eq
  simp at this
  rw [Z2,this] at hn
  cases hn
 | cons en es =>
  clear hn h hx
  have HC:=Lib.hid (Qlq H.out HX.out)
  rw [HN.out] at HC
  obtain ⟨A,cap,rfl,hcap,_⟩:=H.out.at_
  obtain ⟨ln,hln⟩:∃ ln,(en :: es).length=ln:=⟨_,rfl⟩
  obtain ⟨_,_,c2⟩:=H.out.cs
  have fz2:=H.out.fz 2
  rw [hln] at c2 hcap
  have hln1:1<=ln:=by rw [<- hln];simp
  have hln':=Lib.hid hln
  have hcut:∀ w',Below W.heap.size W w'->QC w' B 191 (.slice (if cap=1 then A else A.map (·.add (1 * 1))) (ln-1) (cap-1)) (es.map QK.ptr):=fun w' hb=>by
   have:=(H.out.row.later hb).cut (A:=A) (n:=ln) (cap:=cap) (k:=1) (by rw [hln]) (by simp)
   simpa using this
  replace hcut:=Lib.hid hcut
  have hbk:Hid (∀ g,(Value.slice (if cap=1 then A else A.map (·.add (1 * 1))) (ln-1) (cap-1)).ownBlock=some g->(Value.slice A (en :: es).length cap).ownBlock=some g):=by
   intro g
   split
   ·cases A <;> exact id
   ·cases A <;> exact id
  clear hln
  by_cases hc1:cap=1
  ·rw [if_pos hc1] at hcut hbk
   have hln2:ln=1:=by omega
   subst hc1 hln2
   go_enter Tryz.func97,Tryz.ntmps97
   go_wp2_with (go_at_call 91;refine HC.out.mono ?_;rintro e w1 ⟨rfl,hb1⟩;have hbo:∀ o,Below W.heap.size W (w1.alloc o):=fun o=>Qa hb1 (Qc w1 o);have c2':=fun o=>keep (hbo o) c2;have b0':=fun o=>keep (hbo o) b0;have b1':=fun o=>keep (hbo o) b1;have fz3:=fun o=>(H.out.later (hbo o)).fz 2;replace hbo:=Lib.hid hbo)
   go_ret
   obtain ⟨wE,hwE⟩:∃ wE,w1.alloc (.cells #[.int .i64 i.ses,.int .i64 i.seq] 34)=wE:=⟨_,rfl⟩
   have hbE:=hbo.out (.cells #[.int .i64 i.ses,.int .i64 i.seq] 34)
   rw [hwE] at hbE ⊢
   have hP:=((H.out.later hbE).pop (hcut.out wE hbE) hbk.out)
   have hO:∀ u,Qg O w (wE.setCell ⟨p,2,none⟩ u):=fun u=>(Qg.of_below (Qa HB hbE)).trans' ((QQ wE p 2 _).mono fun k hk=>by rw [hk];exact h0.out.hp)
   exact ⟨rfl,⟨_,_,hP.mono (fun k hk=>.inl hk) (fun k hk=>hk.elim (fun q=>⟨(h0.out.lt k q).1,by exact Nat.lt_of_lt_of_le (h0.out.lt k q).2 (hO _).size⟩) (fun q=>⟨Nat.le_trans h0.out.hB q.1,q.2⟩))⟩,hO _⟩
  ·rw [if_neg hc1] at hcut hbk
   have hc2:¬ cap=1:=hc1
   go_enter Tryz.func97,Tryz.ntmps97
   go_wp2_with (go_at_call 91;refine HC.out.mono ?_;rintro e w1 ⟨rfl,hb1⟩;have hbo:∀ o,Below W.heap.size W (w1.alloc o):=fun o=>Qa hb1 (Qc w1 o);have c2':=fun o=>keep (hbo o) c2;have b0':=fun o=>keep (hbo o) b0;have b1':=fun o=>keep (hbo o) b1;have fz3:=fun o=>(H.out.later (hbo o)).fz 2;replace hbo:=Lib.hid hbo)
   go_ret
   obtain ⟨wE,hwE⟩:∃ wE,w1.alloc (.cells #[.int .i64 i.ses,.int .i64 i.seq] 34)=wE:=⟨_,rfl⟩
   have hbE:=hbo.out (.cells #[.int .i64 i.ses,.int .i64 i.seq] 34)
   rw [hwE] at hbE ⊢
   have hP:=((H.out.later hbE).pop (hcut.out wE hbE) hbk.out)
   have hO:∀ u,Qg O w (wE.setCell ⟨p,2,none⟩ u):=fun u=>(Qg.of_below (Qa HB hbE)).trans' ((QQ wE p 2 _).mono fun k hk=>by rw [hk];exact h0.out.hp)
   exact ⟨rfl,⟨_,_,hP.mono (fun k hk=>.inl hk) (fun k hk=>hk.elim (fun q=>⟨(h0.out.lt k q).1,by exact Nat.lt_of_lt_of_le (h0.out.lt k q).2 (hO _).size⟩) (fun q=>⟨Nat.le_trans h0.out.hB q.1,q.2⟩))⟩,hO _⟩
theorem UW {α:Type} {f:QK->α} {es:List QK} (hn:(es.map f).Nodup) {j k:Nat} (hj:j<es.length) (hk:k<es.length) (hne:j ≠ k):f (es.getD j default) ≠ f (es.getD k default):=by
 intro e
 have h:=List.pairwise_iff_getElem.1 hn
 simp only [List.getD_eq_getElem?_getD,List.getElem?_eq_getElem hj,List.getElem?_eq_getElem hk,Option.getD_some] at e
 rcases Nat.lt_or_gt_of_ne hne with q | q
 ·exact h j k (by simpa using hj) (by simpa using hk) q (by simpa using e)
 ·exact h k j (by simpa using hk) (by simpa using hj) q (by simpa using e.symm)
theorem QbB {es:List QK} {k:Nat} {e e':QK} (h:e ∈ es.set k e'):e=e' \/ ∃ j,j<es.length/\j ≠ k/\e=es.getD j default:=by
 obtain ⟨j,hj,rfl⟩:=List.mem_iff_getElem.1 h
 rw [List.length_set] at hj
 by_cases hjk:j=k
 ·subst hjk;left;simp
 ·right
  refine ⟨j,hj,hjk,?_⟩
  rw [List.getElem_set,if_neg (fun q=>hjk q.symm),List.getD_eq_getElem?_getD,List.getElem?_eq_getElem hj]
  rfl
theorem UX {α:Type} {f:QK->α} {es:List QK} {k:Nat} {e:QK} (hk:k<es.length) (he:f e=f (es.getD k default)):(es.set k e).map f=es.map f:=by
 rw [List.map_set,he,List.getD_eq_getElem?_getD,List.getElem?_eq_getElem hk]
 simp only [Option.getD_some]
 have h2:f es[k]=(es.map f)[k]'(by simpa using hk):=by simp
 rw [h2]
 exact List.set_getElem_self _
def QK.put (e:QK) (o:Qz):QK:=⟨e.p,e.mb,e.gv,o⟩
theorem ZE.turn {w w':World} {B p:Nat} {x:QD} {v:Value} {es:List QK} {O:Nat->Prop} (h:ZE w B p x v es O) {k:Nat} (hk:k<es.length) (ho:Qg (fun b=>b=(es.getD k default).p \/ b=(es.getD k default).mb) w w')
  {o':Qz} (h1:Z4 w' B (es.getD k default).p (es.getD k default).mb (es.getD k default).gv o') :
  ZE w' B p ⟨x.g,x.clock,x.l.set k o'⟩ v (es.set k ((es.getD k default).put o')) O:=by
 have hK:=h.one _ (Kd hk)
 have hpne:∀ {q:Nat} {cs:Array Value} {t:TypeId} {f:Nat × Nat},w.heap[q]? = some (.cells cs t f)->t ≠ 200->¬ (q=(es.getD k default).p \/ q=(es.getD k default).mb):=by
  intro q cs t f hq ht e
  rcases e with e | e
  ·exact UQ hq hK.blk (VD ht) e
  ·exact Jt hK.kn hq e.symm
 refine { blk:=ho.obj h.blk (hpne h.blk (by decide)),row:=?_,eq:=?_,one:=?_,np:=?_,nm:=?_,hp:=h.hp,mv:=h.mv,me:=?_,lt:=fun q hq=>⟨(h.lt q hq).1,Nat.lt_of_lt_of_le (h.lt q hq).2 ho.size⟩ }
 ·rw [UX (e:=(es.getD k default).put o') hk rfl]
  refine h.row.out ho (fun g hg e=>?_)
  rcases h.row with ⟨rfl,_⟩ | ⟨g',off,cap,cur,rfl,_,hh,_⟩
  ·cases hg
  ·injection hg with hg
   subst hg
   exact hpne hh (by decide) e
 ·rw [List.map_set,h.eq];rfl
 ·intro e he
  rcases QbB he with rfl | ⟨j,hj,hjk,rfl⟩
  ·exact h1
  ·have hJ:=h.one _ (Kd hj)
   refine hJ.out ho (fun e=>?_) (fun e=>?_) (fun g hg e=>?_)
   ·rcases e with e | e
    ·exact UW h.np hj hk hjk e
    ·exact Jt hK.kn hJ.blk e.symm
   ·rcases e with e | e
    ·exact Jt hJ.kn hK.blk e
    ·exact UW h.nm hj hk hjk e
   ·rcases e with e | e
    ·exact UR hJ.gr hK.blk (by decide) hg e
    ·rcases hJ.gr.2 with ⟨hq,_⟩ | ⟨g',cap,cur,hq,_,hh,_⟩
     ·rw [hq] at hg;cases hg
     ·rw [hq] at hg
      injection hg with hg
      subst hg
      exact Jt hK.kn hh e.symm
 ·rw [UX (e:=(es.getD k default).put o') hk rfl];exact h.np
 ·rw [UX (e:=(es.getD k default).put o') hk rfl];exact h.nm
 ·intro e he
  rcases QbB he with rfl | ⟨j,hj,hjk,rfl⟩
  ·have:=h.me (es.getD k default) (Kd hk)
   exact this
  ·exact h.me _ (Kd hj)
open Go.Maps
theorem QiL (w:World):(zeroValue 39).run Tryz.prog w = .ok (.int .u64 0) w:=by kernel_rfl
theorem Qec {gs:List Int} {n:Nat} (h:J8 gs n=true):∀ k,k<n->(k:Int)<=gs.getD k 0
 | 0,hk=>(Vf h hk).1.1
 | k+1,hk=>by
  have h1:=Qec h k (by omega)
  have h2:=(Vf h hk).2
  simp only [Nat.add_sub_cancel] at h2
  omega
theorem Qed {g:Int} {gs:List Int} (h:Yy g gs=true):gs.length<=4:=by
 have h':J8 gs gs.length=true:=by
  simp only [Yy,Bool.and_eq_true] at h
  exact h.1
 by_cases hl:gs.length<=4
 ·exact hl
 ·exfalso
  have h1:=Qec h' 4 (by omega)
  have h2:=(Vf h' (show 4<gs.length by omega)).1.2
  omega
set_option maxHeartbeats 2000000 in
theorem Qhh {w:World} {B p:Nat} {x:QD} {v:Value} {es:List QK} {O:Nat->Prop} (h:ZE w B p x v es O) {i:Qp} (g:Int) (s:Nat) (hh:Zn x i=false) (hlen:x.l.length<900000) :
  Calls Tryz.prog 89 #[.pointer (some ⟨p,0,none⟩),.agg #[.int .i64 i.ses,.int .i64 i.seq],.int .i64 g,.int .u64 (s:Int)] w (VQ w B p (QZ x i g s) O (.int .i64 (YL x i g s))):=by
 obtain ⟨W,eW,HB,b0,b1⟩:=Y5 w (.int .i64 i.ses) (.int .i64 i.seq) 34
 have H:=Lib.hid (h.later HB)
 have h0:=Lib.hid h
 have hK:ZQ x i g s=6:=by rw [ZQ,if_pos hh]
 have HQ:Hid (QZ x i g s=x):=by show _=_;rw [QZ,hK];rfl
 have HE:Hid (YL x i g s=6):=by show _=_;rw [YL,hK];rfl
 have HV:Hid ((if Zn x i=true then (es.getD (ZA x.l i) default).ptr else Value.pointer none) = .pointer none):=by show _=_;rw [hh];rfl
 clear h hK hh
 go_enter Tryz.func89,Tryz.ntmps89
 go_wp2_with (go_at_call 144;(with_reducible refine (Kw H.out i (by omega)).mono ?_);rintro e w2 ⟨rfl,hb2⟩;rw [HV.out])
 go_ret
 have hb:=Qa HB hb2
 exact ⟨Yo HE.out,by rw [HQ.out];exact JZ.stay ⟨_,_,h0.out⟩ hb,Qg.of_below hb⟩
structure QjK (w:World) (B:Nat) (x:QD) (es:List QK) (i:Qp) (k ep emb:Nat) (egv:Value) (eo:Qz):Prop where
 hk:ZA x.l i=k
 lt:k<es.length
 en:es.getD k default=⟨ep,emb,egv,eo⟩
 one:Z4 w B ep emb egv eo
 ho:Zo x i=eo
theorem QiM {w:World} {B p:Nat} {x:QD} {v:Value} {es:List QK} {O:Nat->Prop} (h:ZE w B p x v es O) {i:Qp} (hh:Zn x i=true):∃ k ep emb egv eo,QjK w B x es i k ep emb egv eo:=by
 have hlt:ZA x.l i<es.length:=by rw [h.len];simpa [Zn] using hh
 have hOne:=h.one _ (Kd hlt)
 have ho:=h.at_o hlt
 obtain ⟨en,hen⟩:∃ en,es.getD (ZA x.l i) default=en:=⟨_,rfl⟩
 rw [hen] at hOne ho
 obtain ⟨ep,emb,egv,eo⟩:=en
 exact ⟨_,ep,emb,egv,eo,rfl,hlt,hen,hOne,by rw [Zo, <- ho]⟩
theorem QjK.v {w:World} {B k ep emb:Nat} {x:QD} {es:List QK} {i:Qp} {egv:Value} {eo:Qz} (h:QjK w B x es i k ep emb egv eo) (hh:Zn x i=true) :
  (if Zn x i=true then (es.getD (ZA x.l i) default).ptr else Value.pointer none) = .pointer (some ⟨ep,0,none⟩):=by rw [if_pos hh,h.hk,h.en];rfl
set_option maxRecDepth 100000 in
set_option maxHeartbeats 4000000 in
theorem Qhi {w:World} {B p:Nat} {x:QD} {v:Value} {es:List QK} {O:Nat->Prop} (h:ZE w B p x v es O) (hx:Jc x) {i:Qp} {g:Int} {s:Nat} (hg0:-9223372036854775808<=g) (hg1:g<=9223372036854775807) (hh:Zn x i=true) (hk:ZQ x i g s ≠ 2) (hlen:x.l.length<900000) :
  Calls Tryz.prog 89 #[.pointer (some ⟨p,0,none⟩),.agg #[.int .i64 i.ses,.int .i64 i.seq],.int .i64 g,.int .u64 (s:Int)] w (VQ w B p (QZ x i g s) O (.int .i64 (YL x i g s))):=by
 obtain ⟨W,eW,HB,b0,b1⟩:=Y5 w (.int .i64 i.ses) (.int .i64 i.seq) 34
 have H:=Lib.hid (h.later HB)
 have h0:=Lib.hid h
 obtain ⟨k,ep,emb,egv,eo,F⟩:=QiM H.out hh
 have HV:=Lib.hid (F.v hh)
 have HQ:Hid (QZ x i g s=x):=by show _=_;rw [QZ,if_neg hk]
 obtain ⟨c0,_,_⟩:=H.out.cs
 obtain ⟨_,_,d2,_,d4,_⟩:=F.one.cs
 obtain ⟨A,cap,eA,_,hI⟩:=KL F.one.gr
 rw [eA] at d2
 have hok:=hx.one eo (by rw [<- F.ho];exact (Xt hh).2.2)
 have hgn:eo.gs.length<=1000:=by
  have:=Qed hok.gs
  omega
 have HC:Hid (∀ wz,Below W.heap.size W wz->Calls Tryz.prog 85 #[.slice A eo.gs.length cap,.int .i64 g] wz fun e w'=>e = .returned (.bool (KQ eo.gs g))/\wz=w'):=fun wz hb=>YD eo.gs A cap g wz (QI.later hI hb) (by omega)
 have hfin:∀ w2,Below W.heap.size W w2->JZ w2 B p (QZ x i g s) (ext O w w2)/\Qg O w w2:=fun w2 hb=>by
  have hb:=Qa HB hb
  exact ⟨by rw [HQ.out];exact JZ.stay ⟨_,_,h0.out⟩ hb,Qg.of_below hb⟩
 replace hfin:=Lib.hid hfin
 have hmap:=Lib.hid F.one.kn
 have hlook:=Lib.hid (fun c=>Qd2 (c:=c) hok.nd g)
 by_cases q1:g=x.g
 ·have HE:Hid (YL x i g s=1):=by
   have:ZQ x i g s=1:=by rw [ZQ,if_neg (by rw [hh];decide),if_pos (by simp [q1])]
   show _=_;rw [YL,this];rfl
  have q1':(g == x.g)=true:=by rw [beq_iff_eq];exact q1
  clear h hh hk hx hI hok F q1 h0
  go_enter Tryz.func89,Tryz.ntmps89
  go_wp2_with (go_at_call 144;(with_reducible refine (Kw H.out i (by omega)).mono ?_);rintro e w2 ⟨rfl,hb2⟩;rw [HV.out];replace c0:=keep hb2 c0)
  go_ret
  exact ⟨Yo HE.out,hfin.out _ hb2⟩
 ·have q1':(g == x.g)=false:=by rw [beq_eq_false_iff_ne];exact q1
  have hkno:∀ b1 b2 b3:Bool,eo.gs.contains g=b1->decide (s<1)=b2->decide (YF<s)=b3->(!b1 || b2 || b3)=true->ZQ x i g s=1:=fun b1 b2 b3 e1 e2 e3 e4=>by
   rw [ZQ,if_neg (by rw [hh];decide),F.ho,e1,e2,e3]
   rw [if_pos (by revert e4;cases b1 <;> cases b2 <;> cases b3 <;> simp)]
  have hkc:eo.gs.contains g=true->1<=s->s<=YF->ZG eo.known g=false->ZQ x i g s=2:=fun e1 e2 e3 e4=>by
   rw [ZQ,if_neg (by rw [hh];decide),F.ho,e1,e4]
   rw [if_neg (by simp [q1];omega)]
   rfl
  by_cases q2:KQ eo.gs g=true
  case neg =>
   have q2f:KQ eo.gs g=false:=by simpa using q2
   have hcq:=Lib.hid q2f
   have HE:Hid (YL x i g s=1):=by
    show _=_;rw [YL,hkno false _ _ q2f rfl rfl (by simp)];rfl
   clear hkno hkc q2 q2f
   clear h hh hk hx hI hok F q1 h0
   go_enter Tryz.func89,Tryz.ntmps89
   go_wp2_with (first
    | (go_at_call 144;(with_reducible refine (Kw H.out i (by omega)).mono ?_);rintro e w2 ⟨rfl,hb2⟩;rw [HV.out];replace c0:=keep hb2 c0;replace d2:=keep hb2 d2;replace d4:=keep hb2 d4;have hC2:=HC.out w2 hb2;rw [hcq.out] at hC2;have hm2:JY w2 emb eo.known:=hmap.out.later hb2)
    | (go_at_call 85;(with_reducible refine hC2.mono ?_);rintro e w3 ⟨rfl,rfl⟩))
   go_ret
   exact ⟨Yo HE.out,hfin.out _ hb2⟩
  have hcq:=Lib.hid q2
  by_cases q3:s<1
  ·have HE:Hid (YL x i g s=1):=by
    show _=_;rw [YL,hkno true true _ q2 (by simpa using q3) rfl (by simp)];rfl
   have q3':(s:Int)<1:=by omega
   clear hkno hkc q2 q3
   clear h hh hk hx hI hok F q1 h0
   go_enter Tryz.func89,Tryz.ntmps89
   go_wp2_with (first
    | (go_at_call 144;(with_reducible refine (Kw H.out i (by omega)).mono ?_);rintro e w2 ⟨rfl,hb2⟩;rw [HV.out];replace c0:=keep hb2 c0;replace d2:=keep hb2 d2;replace d4:=keep hb2 d4;have hC2:=HC.out w2 hb2;rw [hcq.out] at hC2;have hm2:JY w2 emb eo.known:=hmap.out.later hb2)
    | (go_at_call 85;(with_reducible refine hC2.mono ?_);rintro e w3 ⟨rfl,rfl⟩))
   go_ret
   exact ⟨Yo HE.out,hfin.out _ hb2⟩
  by_cases q4:YF<s
  ·have HE:Hid (YL x i g s=1):=by
    show _=_;rw [YL,hkno true false true q2 (by simpa using q3) (by simpa using q4) (by simp)];rfl
   have q3':decide ((s:Int)<1)=false:=by rw [decide_eq_false_iff_not];omega
   have q4':decide ((4611686018427387904:Int)<(s:Int))=true:=by
    have:4611686018427387904<s:=q4
    rw [decide_eq_true_iff];omega
   clear hkno hkc q2 q3 q4
   clear h hh hk hx hI hok F q1 h0
   go_enter Tryz.func89,Tryz.ntmps89
   go_wp2_with (first
    | (go_at_call 144;(with_reducible refine (Kw H.out i (by omega)).mono ?_);rintro e w2 ⟨rfl,hb2⟩;rw [HV.out];replace c0:=keep hb2 c0;replace d2:=keep hb2 d2;replace d4:=keep hb2 d4;have hC2:=HC.out w2 hb2;rw [hcq.out] at hC2;have hm2:JY w2 emb eo.known:=hmap.out.later hb2)
    | (go_at_call 85;(with_reducible refine hC2.mono ?_);rintro e w3 ⟨rfl,rfl⟩))
   go_ret
   exact ⟨Yo HE.out,hfin.out _ hb2⟩
  have q5:ZG eo.known g=true:=by
   cases q:ZG eo.known g
   ·exact absurd (hkc q2 (by omega) (by omega) q) hk
   ·rfl
  have HE:Hid (YL x i g s=0):=by
   have:ZQ x i g s=0:=by
    rw [ZQ,if_neg (by rw [hh];decide),F.ho,show eo.gs.contains g=true from q2,q5]
    rw [if_neg (by simp [q1];omega)]
    rfl
   show _=_;rw [YL,this];rfl
  have hpos:1<=Ve eo.known g:=by
   obtain ⟨u,hu,rfl⟩:=List.mem_map.1 (Jj.1 q5)
   rw [VO hok.nd hu]
   exact (hok.kn u hu).2.2.1
  have q3':decide ((s:Int)<1)=false:=by rw [decide_eq_false_iff_not];omega
  have q4':decide ((4611686018427387904:Int)<(s:Int))=false:=by
   have:¬ 4611686018427387904<s:=q4
   rw [decide_eq_false_iff_not];omega
  obtain ⟨c1,hc1⟩:∃ c1,Ve eo.known g=c1:=⟨_,rfl⟩
  rw [hc1] at hlook hpos
  have q6:(0:Int)<(c1:Int):=by omega
  clear hkno hkc q2 q3 q4 q5 hpos hc1
  clear h hh hk hx hI hok F q1 h0
  go_enter Tryz.func89,Tryz.ntmps89
  go_wp2_with (first
   | (go_at_call 144;(with_reducible refine (Kw H.out i (by omega)).mono ?_);rintro e w2 ⟨rfl,hb2⟩;rw [HV.out];replace c0:=keep hb2 c0;replace d2:=keep hb2 d2;replace d4:=keep hb2 d4;have hC2:=HC.out w2 hb2;rw [hcq.out] at hC2;have hm2:JY w2 emb eo.known:=hmap.out.later hb2)
   | (go_at_call 85;(with_reducible refine hC2.mono ?_);rintro e w3 ⟨rfl,rfl⟩)
   | (at_lookup;refine wpList_lookup_own_int _ rfl _ _ 198 rfl 3 39 .u64 QbY Tryz.underlying198 Tryz.underlying39 (QiL _) emb _ _ rfl hm2 _ _ rfl (keyOf_int_mk Tryz.underlying3 (WalkArith.wf_i64 ⟨hg0,hg1⟩)) ?_;intro c hc hwc;obtain rfl:=hlook.out c hc;clear hc hwc))
  go_ret
  exact ⟨Yo HE.out,hfin.out _ hb2⟩
theorem Z4.learnt {w w4:World} {B p mb:Nat} {gv:Value} {o:Qz} (h:Z4 w B p mb gv o) {g:Int} {s:Nat} (hg:w.grownBy w4 (some mb)) (hm:w4.ownsMap Tryz.prog 3 (plainElem (H:=Unit) Tryz.prog 39) mb (o.known.length+1) ((Xm o.known).put (.int .i64 g) (.lit (.int .u64 (s:Int))))) {fb:Bool} (hf:decide (o.known.length+1+1=o.gs.length)=fb) :
  Z4 (w4.drew.setCell ⟨p,5,none⟩ (.bool fb)) B p mb gv (QP o g s)/\Qg (fun b=>b=p \/ b=mb) w (w4.drew.setCell ⟨p,5,none⟩ (.bool fb)):=by
 have ho:Qg (fun k=>k=mb) w w4:=Qg.of_grown hg (fun k e=>by cases e;rfl)
 have hmp:mb ≠ p:=Jt h.kn h.blk
 have hb4:=ho.obj h.blk (fun e=>hmp e.symm)
 have hod:Qg (fun k=>k=mb) w w4.drew:=⟨ho.os,ho.tape,ho.output,ho.size,ho.block⟩
 have oP:=QQ w4.drew p 5 (.bool fb)
 refine ⟨⟨?_,?_,?_⟩,(hod.mono fun k hk=>.inr hk).trans' (oP.mono fun k hk=>.inl hk)⟩
 ·have:=ZJ (w:=w4.drew) (j:=5) (.bool fb) hb4
  have e:(QP o g s).final=fb:=hf
  rw [e]
  exact this
 ·refine oP.row (hod.row h.gr (fun g' hg' e=>?_)) (fun g' hg' e=>UR h.gr h.blk (by decide) hg' e)
  rcases h.gr.2 with ⟨hq,_⟩ | ⟨g2,cap,cur,hq,_,hh,_⟩
  ·rw [hq] at hg';cases hg'
  ·rw [hq] at hg'
   injection hg' with hg'
   subst hg'
   exact Jt h.kn hh e.symm
 ·have h1:JY w4 mb (QP o g s).known:=by
   show w4.ownsMap _ _ _ _ _ _
   have e:(QP o g s).known=o.known ++ [(g,s)]:=rfl
   rw [e,Qd1,List.length_append]
   exact hm
  have h2:JY w4.drew mb (QP o g s).known:=h1.later (Qb (Below.refl _ _))
  exact oP.map h2 hmp
set_option maxRecDepth 100000 in
set_option maxHeartbeats 4000000 in
theorem Qin {w:World} {B p:Nat} {x:QD} {v:Value} {es:List QK} {O:Nat->Prop} (h:ZE w B p x v es O) (hx:Jc x) {i:Qp} {g:Int} {s:Nat} (hg0:-9223372036854775808<=g) (hg1:g<=9223372036854775807) (hs64:s<18446744073709551616) (hh:Zn x i=true) (hk:ZQ x i g s=2) (hlen:x.l.length<900000) :
  Calls Tryz.prog 89 #[.pointer (some ⟨p,0,none⟩),.agg #[.int .i64 i.ses,.int .i64 i.seq],.int .i64 g,.int .u64 (s:Int)] w (VQ w B p (QZ x i g s) O (.int .i64 (YL x i g s))):=by
 obtain ⟨W,eW,HB,b0,b1⟩:=Y5 w (.int .i64 i.ses) (.int .i64 i.seq) 34
 have H:=Lib.hid (h.later HB)
 have h0:=Lib.hid h
 obtain ⟨k,ep,emb,egv,eo,F⟩:=QiM H.out hh
 have HV:=Lib.hid (F.v hh)
 have hLQ:=Lib.hid (Qa5 hx i g s)
 have HE:Hid (YL x i g s=0):=by show _=_;rw [YL,hk];rfl
 obtain ⟨c0,_,_⟩:=H.out.cs
 obtain ⟨_,_,d2,_,d4,d5⟩:=F.one.cs
 obtain ⟨A,cap,eA,_,hI⟩:=KL F.one.gr
 rw [eA] at d2
 have hok:=hx.one eo (by rw [<- F.ho];exact (Xt hh).2.2)
 have hgn:eo.gs.length<=4:=Qed hok.gs
 have hK2:g ≠ x.g/\eo.gs.contains g=true/\1<=s/\s<=YF/\ZG eo.known g=false:=by
  have hk':=hk
  rw [ZQ,if_neg (by rw [hh];decide),F.ho] at hk'
  split at hk';· cases hk'
  rename_i e2
  split at hk';· cases hk'
  rename_i e3
  simp only [Bool.or_eq_true,decide_eq_true_eq,Bool.not_eq_true',not_or] at e2
  obtain ⟨⟨⟨g1,g2⟩,g3⟩,g4⟩:=e2
  exact ⟨g1,by simpa using g2,by omega,by omega,by simpa using e3⟩
 obtain ⟨q1,q2,q3,q4,q5⟩:=hK2
 have HC:Hid (∀ wz,Below W.heap.size W wz->Calls Tryz.prog 85 #[.slice A eo.gs.length cap,.int .i64 g] wz fun e w'=>e = .returned (.bool true)/\wz=w'):=fun wz hb=>by
  have:=YD eo.gs A cap g wz (QI.later hI hb) (by omega)
  rw [show KQ eo.gs g=true from q2] at this
  exact this
 have hlook:Hid (∀ c:Int,(Xm eo.known).atKey (.int .i64 g) (.lit (.int .u64 0)) = .lit (.int .u64 c)->c=0):=fun c hc=>by
  have:=Qd2 hok.nd g c hc
  rw [QiJ q5] at this
  exact this
 have q1':(g == x.g)=false:=by rw [beq_eq_false_iff_ne];exact q1
 have q3':decide ((s:Int)<1)=false:=by rw [decide_eq_false_iff_not];omega
 have q4':decide ((4611686018427387904:Int)<(s:Int))=false:=by
  have:s<=4611686018427387904:=q4
  rw [decide_eq_false_iff_not];omega
 have hwfs:(Lit.int .u64 (s:Int)).wf=true:=WalkArith.wf_u64 ⟨by omega,by omega⟩
 have hkl:eo.known.length<900000:=by
  have h3:(eo.known.map (·.1)).length<=eo.gs.length:=XS hok.nd fun y hy=>by
   obtain ⟨z,hz,rfl⟩:=List.mem_map.1 hy
   have:=(hok.kn z hz).2.1
   exact List.contains_iff_mem.1 this
  rw [List.length_map] at h3
  omega
 have hne:some ep ≠ some emb:=fun e=>by
  cases e
  exact Jt F.one.kn F.one.blk rfl
 obtain ⟨fb,hfb⟩:∃ fb,decide (eo.known.length+1+1=eo.gs.length)=fb:=⟨_,rfl⟩
 have hone:=Lib.hid F.one
 have hBB:=Lib.hid h.hB
 have hF:=Lib.hid F
 obtain ⟨n1,hn1⟩:∃ n1:Nat,eo.known.length+1=n1:=⟨_,rfl⟩
 have hsize:Maps.size ((Xm eo.known).put (.int .i64 g) (.lit (.int .u64 (s:Int))))=n1:=by
  rw [<- Qd1,QjA,List.length_append]
  ·exact hn1
  ·rw [List.map_append,List.nodup_append]
   refine ⟨hok.nd,by simp,fun a ha b hb=>?_⟩
   simp only [List.map_cons,List.map_nil,List.mem_singleton] at hb
   rw [hb]
   intro e
   rw [e] at ha
   rw [Jj.2 ha] at q5
   cases q5
 obtain ⟨gl,hgl⟩:∃ gl:Nat,eo.gs.length=gl:=⟨_,rfl⟩
 rw [hgl] at HC d2 hgn
 have hgw:IntKind.i64.wrap ((gl:Int)-1)=(gl:Int)-1:=IntWalk.i64_in _ (by omega)
 have hcmp:(((n1:Nat):Int) == (gl:Int)-1)=fb:=by
  rw [<- hfb,Bool.eq_iff_iff]
  simp only [decide_eq_true_eq,beq_iff_eq]
  omega
 have hmx:eo.known.length<maxLen:=by unfold maxLen;omega
 have hfb2:=Lib.hid hfb
 have hgl2:=Lib.hid hgl
 have heA:Hid (egv = .slice A gl cap):=by show _=_;rw [eA,hgl]
 have hmap:=Lib.hid F.one.kn
 replace hsize:=Lib.hid hsize
 have hkk:=Lib.hid hk
 have hxx:=Lib.hid hx
 clear h hh hk hx hI hok F h0 q1 q2 q3 q4 q5 hfb hn1 hgl eA
 go_enter Tryz.func89,Tryz.ntmps89
 go_wp2_with (first
  | (go_at_call 144;(with_reducible refine (Kw H.out i (by omega)).mono ?_);rintro e w2 ⟨rfl,hb2⟩;rw [HV.out];replace c0:=keep hb2 c0;replace d2:=keep hb2 d2;replace d4:=keep hb2 d4;replace d5:=keep hb2 d5;have hC2:=HC.out w2 hb2;have hm2:JY w2 emb eo.known:=hmap.out.later hb2)
  | (go_at_call 85;(with_reducible refine hC2.mono ?_);rintro e w3 ⟨rfl,rfl⟩)
  | (at_lookup;refine wpList_lookup_own_int _ rfl _ _ 198 rfl 3 39 .u64 QbY Tryz.underlying198 Tryz.underlying39 (QiL _) emb _ _ rfl hm2 _ _ rfl (keyOf_int_mk Tryz.underlying3 (WalkArith.wf_i64 ⟨hg0,hg1⟩)) ?_;intro c hc hwc;obtain rfl:=hlook.out c hc;clear hc hwc)
  | (at_mapUpdate;refine wpList_mapUpdate_own _ rfl _ _ _ 198 rfl 3 39 QbY Tryz.underlying198 _ emb _ _ rfl hm2 hmx _ _ _ rfl rfl (keyOf_int_mk Tryz.underlying3 (WalkArith.wf_i64 ⟨hg0,hg1⟩)) _ [] (plainElem_int Tryz.underlying39 hwfs) ?_;intro w4 hown4 hgr4))
 have d2':=hgr4.cell d2 hne
 have d4':=hgr4.cell d4 hne
 have d5':=hgr4.cell d5 hne
 have hL:=(hone.out.later hb2).learnt hgr4 hown4 hfb2.out
 have f5:w4.frozen? ⟨ep,5,none⟩=false:=by
  have hbq:=(Qg.of_grown (O:=fun k=>k=emb) hgr4 (fun k e=>by cases e;rfl)).obj (hone.out.later hb2).blk (fun e=>hne (by rw [e]))
  exact frozen_of_row w4 ep 5 _ _ hbq
 obtain ⟨_,_,k2,_,k4,k5⟩:=hL.1.cs
 rw [heA.out] at k2
 replace hL:=Lib.hid hL
 have hown4d:w4.drew.ownsMap Tryz.prog 3 (plainElem (H:=Unit) Tryz.prog 39) emb (eo.known.length+1) ((Xm eo.known).put (.int .i64 g) (.lit (.int .u64 (s:Int)))):=hown4
 have hlen:=fun ty=>hown4d.len Tryz.underlying198 ty
 rw [hsize.out] at hlen
 go_frame
 go_cut [63] (fun _ wx=>wx=(w4.setCell ⟨ep,5,none⟩ (.bool fb)).drew)
 case first =>
  refine wp_region_still_tail 15 (by kernel_rfl) (by kernel_rfl) ?_
  simp only [List.take_succ_cons,List.take_zero,List.drop_succ_cons,List.drop_zero]
  repeat still_step
  refine wpStill_nil ?_
  go_wp2
  go_meet
  rfl
 case rest =>
 subst hcut
 clear hlen
 obtain ⟨w5,hw5⟩:∃ w5,(w4.setCell ⟨ep,5,none⟩ (.bool fb)).drew=w5:=⟨_,rfl⟩
 have hL5:Z4 w5 B ep emb egv (QP eo g s):=by rw [<- hw5];exact hL.out.1
 have hO5:Qg (fun b=>b=ep \/ b=emb) w2 w5:=by rw [<- hw5];exact hL.out.2
 rw [hw5]
 obtain ⟨l6,hl6⟩:∃ l6,x.l.set k (QP eo g s)=l6:=⟨_,rfl⟩
 obtain ⟨es6,hT⟩:∃ es6,ZE w5 B p ⟨x.g,x.clock,l6⟩ v es6 O:=by
  have hT:=(H.out.later hb2).turn (w':=w5) (k:=k) (o':=QP eo g s) hF.out.lt (by rw [hF.out.en];exact hO5) (by rw [hF.out.en];exact hL5)
  rw [hl6] at hT
  exact ⟨_,hT⟩
 have hQ:QZ x i g s=⟨x.g,if fb then max x.clock (QP eo g s).stamp else x.clock,Je l6⟩:=by
  rw [QZ,if_pos hkk.out,hF.out.ho,hF.out.hk]
  have:(QP eo g s).final=fb:=hfb2.out
  dsimp only
  rw [this,hl6]
 have hok6:=hLQ.out
 rw [hQ] at hok6
 have hkn6:∀ o ∈ l6,(o.known.map (·.1)).Nodup:=fun o ho=>(hok6.one o ((Zz l6).mem_iff.2 ho)).nd
 have hid6:(l6.map Qz.id).Nodup:=(((Zz l6).map Qz.id).nodup_iff).1 hok6.nd
 have hlen6:l6.length=x.l.length:=by rw [<- hl6,List.length_set]
 have hpos6:0<l6.length:=by rw [hlen6];have:=hF.out.lt;have:=H.out.len;omega
 have hknown:((QP eo g s).known.map (·.1)).Nodup:=hkn6 _ (by rw [<- hl6];exact List.mem_iff_getElem.2 ⟨k,by rw [List.length_set];have:=hF.out.lt;have:=H.out.len;omega,by simp⟩)
 have hO2:Qg O w w5:=by
  have hme:=(H.out.me _ (Kd hF.out.lt))
  rw [hF.out.en] at hme
  exact ((Qg.of_below HB).trans' (Qg.of_below hb2)).trans' (hO5.mono fun q hq=>hq.elim (fun e=>by rw [e];exact hme.1) (fun e=>by rw [e];exact hme.2.1))
 have hBw:B<=w.heap.size:=hBB.out
 obtain ⟨st,hst⟩:∃ st,(QP eo g s).stamp=st:=⟨_,rfl⟩
 obtain ⟨m0,m1,_⟩:=hT.cs
 dsimp only at m0 m1
 have g1:=hT.fz 1
 have k5':w5.cell? ⟨ep,5,none⟩=some (.bool fb):=by
  have:=hL5.cs.2.2.2.2.2
  rw [show (QP eo g s).final=fb from hfb2.out] at this
  exact this
 have hQh:=Lib.hid hQ
 have hT0:=Lib.hid hT
 replace hkn6:=Lib.hid hkn6
 replace hid6:=Lib.hid hid6
 replace hO2:=Lib.hid hO2
 replace hL5:=Lib.hid hL5
 have hstamp:=Lib.hid (UC (hL5.out.later (Qb (Below.refl w5.heap.size w5))) hknown)
 rw [hst] at hstamp hQh
 clear hQ hok6 hT hknown hl6 hL k2 k4 k5 hO5
 cases fb
 ·have hS:=Lib.hid (Qe1 hT0.out hkn6.out hid6.out (by rw [hT0.out.len];exact hpos6) (by rw [hT0.out.len];dsimp only;omega))
  go_wp2_with (go_at_call 146;(with_reducible refine hS.out.mono ?_);rintro e w6 ⟨rfl,ho6,es7,hI7⟩)
  go_ret
  have hW:Qg O w w6:=hO2.out.trans' ho6
  refine ⟨Yo HE.out,?_,hW⟩
  rw [hQh.out]
  exact ⟨_,_,hI7.mono (fun q hq=>.inl hq) (fun q hq=>hq.elim (fun e=>hI7.lt q e) (fun e=>⟨Nat.le_trans hBw e.1,e.2⟩))⟩
 ·obtain ⟨mx,hmx2⟩:∃ mx:Nat,max x.clock st=mx:=⟨_,rfl⟩
  have hmc:max (x.clock:Int) (st:Int)=(mx:Int):=by rw [<- hmx2];omega
  have hmq:=Lib.hid hmx2
  rw [hmx2] at hQh
  clear hmx2
  go_wp2
  go_region_law ((go_simp;go_at_call 105;refine hstamp.out.mono ?_;rintro e w6 ⟨rfl,hb6⟩;have hbx:Below w5.heap.size w5 w6:=Qa (Qb (Below.refl w5.heap.size w5)) hb6.b;have m0':=keep hbx m0;have m1':=keep hbx m1;have g1':=(hT0.out.later hbx).fz 1;have hSC:=(hT0.out.later hbx).setClock mx))
  all_goals
   obtain ⟨w7,hw7⟩:∃ w7,w6.setCell ⟨p,1,none⟩ (.int .u64 (mx:Int))=w7:=⟨_,rfl⟩
   have hO7:Qg O w w7:=by
    rw [<- hw7]
    exact (hO2.out.trans' (Qg.of_below hbx)).trans' ((QQ w6 p 1 _).mono fun q hq=>by rw [hq];exact hT0.out.hp)
   rw [hw7] at hSC ⊢
   have hS:=Lib.hid (Qe1 hSC hkn6.out hid6.out (by rw [hSC.len];exact hpos6) (by rw [hSC.len];dsimp only;omega))
   replace hO7:=Lib.hid hO7
   go_wp2_with (go_at_call 146;(with_reducible refine hS.out.mono ?_);rintro e w8 ⟨rfl,ho8,es7,hI7⟩)
   go_ret
   have hW:Qg O w w8:=hO7.out.trans' ho8
   refine ⟨Yo HE.out,?_,hW⟩
   rw [hQh.out]
   exact ⟨_,_,hI7.mono (fun q hq=>.inl hq) (fun q hq=>hq.elim (fun e=>hI7.lt q e) (fun e=>⟨Nat.le_trans hBw e.1,e.2⟩))⟩
theorem QiN {w:World} {B p:Nat} {x:QD} {O:Nat->Prop} (h:JZ w B p x O) (hx:Jc x) {i:Qp} {g:Int} {s:Nat} (hg0:-9223372036854775808<=g) (hg1:g<=9223372036854775807) (hs64:s<18446744073709551616) (hlen:x.l.length<900000) :
  Calls Tryz.prog 89 #[.pointer (some ⟨p,0,none⟩),.agg #[.int .i64 i.ses,.int .i64 i.seq],.int .i64 g,.int .u64 (s:Int)] w (VQ w B p (QZ x i g s) O (.int .i64 (YL x i g s))):=by
 obtain ⟨v,es,h⟩:=h
 cases hh:Zn x i
 ·exact Qhh h g s hh hlen
 ·by_cases hk:ZQ x i g s=2
  ·exact Qin h hx hg0 hg1 hs64 hh hk hlen
  ·exact Qhi h hx hg0 hg1 hh hk hlen
end Go.Proofs.YtcldpmkhpmlcbaaGreatDoor
