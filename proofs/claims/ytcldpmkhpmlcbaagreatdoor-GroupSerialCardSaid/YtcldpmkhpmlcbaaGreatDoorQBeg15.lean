/- part -/
import Derived.Test.YtcldpmkhpmlcbaaGreatDoorJ11
import Derived.Test.YtcldpmkhpmlcbaaGreatDoorRegTail
import Derived.Test.YtcldpmkhpmlcbaaGreatDoorJ6
import Derived.Deep.RegionHeld3
import Derived.Deep.DeepCutAuto
import Derived.Carry
import Derived.Deep.AppendLies
set_option linter.unusedVariables false
set_option linter.unusedSimpArgs false
namespace Go.Proofs.YtcldpmkhpmlcbaaGreatDoor
open Go.RowKit Go.Shelf Go.Lib
def VQ (w:World) (B p:Nat) (x:QD) (O:Nat->Prop) (v:Value) (e:Ending) (w':World):Prop :=
 e = .returned v/\JZ w' B p x (ext O w w')/\Qg O w w'
theorem ZE.setClock {w:World} {B p:Nat} {x:QD} {v:Value} {es:List QK} {O:Nat->Prop} (h:ZE w B p x v es O) (n:Nat) :
  ZE (w.setCell ⟨p,1,none⟩ (.int .u64 (n:Int))) B p ⟨x.g,n,x.l⟩ v es O :=
 h.setB (x':=⟨x.g,n,x.l⟩) (v':=v) 1 _ rfl rfl h.row h.mv
theorem Qdp {P:Program} {f:Nat} {args:Array Value} {w:World} {b c:Bool} (h:b=c) (hc:Calls P f args w fun e w'=>e = .returned (.bool b)/\Below w.heap.size w w'):Calls P f args w fun e w'=>e = .returned (.bool c)/\Below w.heap.size w w':=by
 subst h;exact hc
theorem QmQ {x:QD} {i:Qp} {gs:List Int} (hi:QbM i=true) (hr:Yy x.g gs=true) (hno:Zn x i=false) (hc:x.clock<YF):Ys x i gs=0:=by
 rw [Ys,hi,hr,hno]
 simp;omega
theorem QjJ:(Tryz.prog.info? 191).map (fun i=>(i.zero,i.size,i.bytes))=some (some (.pointer none),1,8):=by kernel_rfl
theorem VG {a:Option Addr}:∀ u ∈ [Value.pointer a],u.oneCell'=true:=fun u hu=>by
 simp at hu;rw [hu];rfl
theorem QnU {w:World} {a b n size:Nat} {e:TypeId} {v:Value} {xs:List Value} (h:w.ownsRow a e size v n xs) (hb:b<=a):w.ownsRow b e size v n xs:=by
 refine ⟨h.1,?_⟩
 rcases h.2 with h2 | ⟨g,cap,cur,hv,hg,r⟩
 ·exact .inl h2
 ·exact .inr ⟨g,cap,cur,hv,Nat.le_trans hb hg,r⟩
theorem QfH (w:World):JY (w.alloc (.map #[] 0)) w.heap.size []:=World.ownsMap_made w _ _ _
theorem JY.later {w w':World} {b:Nat} {vs:List (Int × Nat)} (h:JY w b vs) (hb:Below w.heap.size w w'):JY w' b vs:=(Qg.of_below (O:=fun _=>False) hb).map h (fun e=>e)
def Qlo (w3 w:World) (B:Nat) (i:Qp) (gs:List Int) (n1:Nat) (fb:Bool) (v:Value):Prop :=
 ∃ e:QK,e.ptr=v/\e.o=⟨i,gs,n1,[],fb⟩/\Z4 w B e.p e.mb e.gv e.o/\w3.heap.size<=e.p/\w3.heap.size<=e.mb/\∀ g,e.gv.ownBlock=some g->w3.heap.size<=g
theorem QnV {w3 w4:World} {B Bg mb:Nat} {i:Qp} {gs:List Int} {n1:Nat} {fb:Bool} {gv:Value} (hgr:w4.ownsRow Bg 3 1 gv gs.length (gs.map (Value.int .i64))) (hB:B<=Bg) (hBg:w3.heap.size<=Bg) (hm:JY w4 mb []) (hmb:w3.heap.size<=mb) (hs:w3.heap.size<=w4.heap.size) (r:Obj) :
  Qlo w3 ((w4.alloc (.cells #[.int .i64 i.ses,.int .i64 i.seq,gv,.int .u64 (n1:Int),.map (some mb),.bool fb] 200)).alloc r) B i gs n1 fb (.pointer (some ⟨w4.heap.size,0,none⟩)):=by
 refine ⟨⟨w4.heap.size,mb,gv,⟨i,gs,n1,[],fb⟩⟩,rfl,rfl,⟨?_,?_,?_⟩,hs,hmb,fun g hg=>Nat.le_trans hBg (hgr.lt g hg).1⟩
 ·exact (Qg.of_below (O:=fun _=>False) (Qc _ _)).obj (heap_alloc_new w4 _) (fun e=>e)
 ·exact QnU (Qi hgr (ZL _ _ _)) hB
 ·exact hm.later (ZL _ _ _)
structure Qoy (w3 X:World) (B:Nat) (v:Value) (es:List QK) (i:Qp) (gs:List Int) (n1:Nat) (fb:Bool) (q r:Nat):Prop where
 bel:Below w3.heap.size w3 X
 own:QC X B 191 v (es.map QK.ptr)
 news:∀ j u,[Value.pointer (some ⟨q,0,none⟩)][j]? = some u->X.cell? ((⟨r,0,none⟩:Addr).add j)=some u
 ent:Qlo w3 X B i gs n1 fb (.pointer (some ⟨q,0,none⟩))
 base:B<=X.heap.size
theorem Qnx {w3 w4:World} {B Bg mb:Nat} {v:Value} {es:List QK} {i:Qp} {gs:List Int} {n1:Nat} {fb:Bool} {gv:Value} (h3:QC w3 B 191 v (es.map QK.ptr)) (hB:B<=w3.heap.size) (hbC:Below w3.heap.size w3 w4)
  (hgr:w4.ownsRow Bg 3 1 gv gs.length (gs.map (Value.int .i64))) (hBg:w3.heap.size<=Bg) (hm:JY w4 mb []) (hmb:w3.heap.size<=mb) :
  Qoy w3 ((w4.alloc (.cells #[.int .i64 i.ses,.int .i64 i.seq,gv,.int .u64 (n1:Int),.map (some mb),.bool fb] 200)).alloc (.cells #[.pointer (some ⟨w4.heap.size,0,none⟩)] 191)) B v es i gs n1 fb w4.heap.size (w4.heap.size+1):=by
 have hb:=Qa hbC (ZL w4 (.cells #[.int .i64 i.ses,.int .i64 i.seq,gv,.int .u64 (n1:Int),.map (some mb),.bool fb] 200) (.cells #[.pointer (some ⟨w4.heap.size,0,none⟩)] 191))
 refine ⟨hb,h3.later hb,?_,QnV hgr (Nat.le_trans hB hBg) hBg hm hmb hbC.size _,Nat.le_trans hB hb.size⟩
 have:=World.news_of_block (heap_alloc_new (w4.alloc (.cells #[.int .i64 i.ses,.int .i64 i.seq,gv,.int .u64 (n1:Int),.map (some mb),.bool fb] 200)) (.cells #[.pointer (some ⟨w4.heap.size,0,none⟩)] 191))
 simpa using this
theorem Qo6 {w3 w4:World} {B Bg:Nat} {v:Value} {es:List QK} {i:Qp} {gs:List Int} {n1:Nat} {fb:Bool} {gv:Value} (h3:QC w3 B 191 v (es.map QK.ptr)) (hB:B<=w3.heap.size) (hbC:Below w3.heap.size w3 w4)
  (hgr:w4.ownsRow Bg 3 1 gv gs.length (gs.map (Value.int .i64))) (hBg:w3.heap.size<=Bg) :
  Qoy w3 (((w4.alloc (.map #[] 0)).alloc (.cells #[.int .i64 i.ses,.int .i64 i.seq,gv,.int .u64 (n1:Int),.map (some w4.heap.size),.bool fb] 200)).alloc (.cells #[.pointer (some ⟨w4.heap.size+1,0,none⟩)] 191)) B v es i gs n1 fb (w4.heap.size+1) (w4.heap.size+2):=by
 have h:=Qnx (i:=i) (n1:=n1) (fb:=fb) h3 hB (Qa hbC (Qc w4 (.map #[] 0))) (Qi hgr (Qc w4 (.map #[] 0))) hBg (QfH w4) hbC.size
 simpa using h
theorem ZE.after {w3 X w15:World} {B p q:Nat} {x:QD} {v u0 u1:Value} {es:List QK} {O:Nat->Prop} (h:ZE w3 B p x v es O) (hq:¬ O q) (l0:w3.cell? ⟨q,0,none⟩=some u0) (l1:w3.cell? ⟨q,1,none⟩=some u1) (hb:Below w3.heap.size w3 X) (hg:X.grownBy w15 v.ownBlock) :
  (w15.cell? ⟨q,0,none⟩=some u0/\w15.cell? ⟨q,1,none⟩=some u1/\w15.cell? ⟨p,1,none⟩=some (.int .u64 (x.clock:Int))) /\
  (∀ u,(w15.setCell ⟨p,2,none⟩ u).cell? ⟨q,0,none⟩=some u0/\(w15.setCell ⟨p,2,none⟩ u).cell? ⟨q,1,none⟩=some u1/\(w15.setCell ⟨p,2,none⟩ u).cell? ⟨p,1,none⟩=some (.int .u64 (x.clock:Int)))/\w15.cell? ⟨p,2,none⟩=some v/\w15.frozen? ⟨p,2,none⟩=false:=by
 have hX:=h.later hb
 have ho:Qg (fun k=>v.ownBlock=some k) X w15:=Qg.of_grown hg (fun k e=>e)
 have hb15:=ho.obj hX.blk (fun e=>hX.row.ne hX.blk (by decide) e rfl)
 have m0:=ho.cell (keep hb l0) (fun e=>hq (h.mv _ e))
 have m1:=ho.cell (keep hb l1) (fun e=>hq (h.mv _ e))
 have hqp:¬ q=p:=fun e=>hq (e ▸ h.hp)
 refine ⟨⟨m0,m1,?_⟩,fun u=>⟨(QQ w15 p 2 u).cell m0 hqp,(QQ w15 p 2 u).cell m1 hqp,?_⟩,?_,frozen_of_row w15 p 2 _ _ hb15⟩
 ·rw [cell_of_row w15 p _ _ _ _ hb15];rfl
 ·rw [cell_of_row _ p _ _ _ _ (ZJ (j:=2) u hb15)];rfl
 ·rw [cell_of_row w15 p _ _ _ _ hb15];rfl
set_option maxRecDepth 100000 in
set_option maxHeartbeats 4000000 in
theorem QnW {w:World} {B p:Nat} {x:QD} {v:Value} {es:List QK} {O:Nat->Prop} (h:ZE w B p x v es O) (hx:Jc x) {i:Qp} {gs:List Int} {b off cap:Nat} (hA:QV w (some ⟨b,off,none⟩) gs) (hOb:¬ O b) (hn:gs.length<=1000)
  (hi:QbM i=true) (hr:Yy x.g gs=true) (hno:Zn x i=false) (hc:x.clock<YF) (hlen:x.l.length<900000) {n1:Nat} (hn1:n1=x.clock+1) :
  Calls Tryz.prog 87 #[.pointer (some ⟨p,0,none⟩),.agg #[.int .i64 i.ses,.int .i64 i.seq],.slice (some ⟨b,off,none⟩) gs.length cap] w
   (VQ w B p (QG x i gs) O (.tuple #[.int .u64 (n1:Int),.int .i64 0])):=by
 obtain ⟨W,eW,HB,b0,b1⟩:=Y5 w (.int .i64 i.ses) (.int .i64 i.seq) 34
 have H:=Lib.hid (h.later HB)
 have hAW:QV W _ gs:=QI.later hA HB
 have hszW:w.heap.size<W.heap.size:=by rw [<- eW];simp
 have hO:=Lib.hid h.lt
 clear h hA
 obtain ⟨c0,c1,c2⟩:=H.out.cs
 have fz1:=H.out.fz 1
 have fz2:=H.out.fz 2
 have HF:=Lib.hid (show Zn x i=false from hno)
 have hcl:decide ((4611686018427387904:Int)<=(x.clock:Int))=false:=by
  have:x.clock<4611686018427387904:=hc
  rw [decide_eq_false_iff_not];omega
 have hwr:IntKind.u64.wrap ((x.clock:Int)+1)=(n1:Int):=by
  have:x.clock<4611686018427387904:=hc
  rw [hn1,IntWalk.u64_in _ (by omega)];omega
 have HR:=Lib.hid (hr)
 have HX:=Lib.hid hx
 have HI:=Lib.hid (show idB i.ses i.seq=true from hi)
 obtain ⟨i0,hi0,hz0,hz1,hz2⟩:=info_parts QjJ
 have hmm:=@run_makeMap Tryz.prog
 replace hn1:=Lib.hid hn1
 have HK:=Lib.hid (QmQ hi hr hno hc)
 clear hx hr hi hno hc
 go_enter Tryz.func87,Tryz.ntmps87
 go_wp2_with (first
  | (go_at_call 82;(with_reducible refine (Qdp HI.out (Kv i.ses i.seq _)).mono ?_);rintro e w1 ⟨rfl,hb1⟩;have d0:=keep hb1 c0;have d1:=keep hb1 c1;have d2:=keep hb1 c2;have H1:=Lib.hid (H.out.later hb1);have hA1:QV w1 _ gs:=QI.later hAW hb1;have e0:=keep hb1 b0;have e1:=keep hb1 b1)
  | (go_at_call 143;(with_reducible refine (QiK d0 hA1 hn HR.out).mono ?_);rintro e w2 ⟨rfl,rfl⟩)
  | (go_at_call 144;(with_reducible refine (Kw H1.out i (by omega)).mono ?_);rintro e w2 ⟨rfl,hb2⟩;rw [HF.out];have f0:=keep hb2 d0;have f1:=keep hb2 d1;have f2:=keep hb2 d2;have H2:=Lib.hid (H1.out.later hb2);have hA2:QV w2 _ gs:=QI.later hA1 hb2;have g0:=keep hb2 e0;have g1:=keep hb2 e1;have fz2':=H2.out.fz 1;simp only [Bool.false_eq_true,if_false]))
 obtain ⟨w3,hw3⟩:∃ w3,w2.setCell ⟨p,1,none⟩ (.int .u64 (n1:Int))=w3:=⟨_,rfl⟩
 have H3:=H2.out.setClock n1
 have hsz3:w3.heap.size=w2.heap.size:=by rw [<- hw3];simp [World.setCell]
 have ho3:Qg O w2 w3:=by rw [<- hw3];exact (QQ w2 p 1 _).mono (fun k hk=>by rw [hk];exact H2.out.hp)
 have hnw:¬ O w.heap.size:=fun e=>by have:=(hO.out _ e).2;omega
 rw [hw3] at H3 ⊢
 obtain ⟨_,k1,k2⟩:=H3.cs
 dsimp only at k1
 have l0:=ho3.cell g0 hnw
 have l1:=ho3.cell g1 hnw
 have hA3:QV w3 (some ⟨b,off,none⟩) gs:=fun j hj=>by
  obtain ⟨b',off',e,hc⟩:=hA2 j hj
  cases e
  exact ⟨_,_,rfl,ho3.cell hc hOb⟩
 replace H3:=Lib.hid H3
 clear hsz3
 go_cut [43] (fun s wx=>s = .pointer (some ⟨p,0,none⟩)/\∃ v' e',ZE wx B p ⟨x.g,n1,x.l ++ [⟨i,gs,n1,[],decide (gs.length=1)⟩]⟩ v' (es ++ [e']) (ext O w3 wx)/\Qg O w3 wx)
 case first =>
  obtain ⟨fb,hfb⟩:∃ fb,((gs.length:Int) == 1)=fb:=⟨_,rfl⟩
  have hfb':Hid (decide (gs.length=1)=fb):=by
   show _=_
   rw [<- hfb,Bool.eq_iff_iff]
   simp only [decide_eq_true_eq,beq_iff_eq]
   omega
  have hB3:B<=w3.heap.size:=H3.out.hB
  have hle3:es.length<900000:=by have:=H3.out.len;dsimp only at this;omega
  have k2m:∀ o,(w3.alloc o).cell? ⟨p,2,none⟩=some v:=fun o=>keep (Qc w3 o) k2
  refine wp_region_noPanic ?_
  refine Yp (S:=(fun w'=>w'.cell? ⟨w.heap.size,0,none⟩=some (.int .i64 i.ses)/\w'.cell? ⟨w.heap.size,1,none⟩=some (.int .i64 i.seq)/\w'.cell? ⟨p,1,none⟩=some (.int .u64 (n1:Int))/\w'.cell? ⟨p,2,none⟩=some v)) (ok:=?oK) (v:=?vK) 19 0 (by kernel_rfl) (by kernel_rfl) (by decide) ?hiK (by kernel_rfl) (by kernel_rfl) (by kernel_rfl) ?hqK (Or.inl ⟨?hgK,?hyK⟩) ⟨l0,l1,k1,k2⟩ (fun hHeld=>?restK)
  case hiK=>(simp only [List.getElem?_toArray,List.getElem?_cons_succ,List.getElem?_cons_zero];rfl)
  case hqK=>exact fun _ _ _ h=>h
  case hgK=>rfl
  case hyK=>(intro w;go_simp;(try with_reducible rfl))
  (try simp only [Act.put,List.setIfInBounds_toArray,List.set_cons_zero,List.set_cons_succ])
  simp only [List.take_succ_cons,List.take_zero,List.drop_succ_cons,List.drop_zero]
  refine wpAnyH_take (i:=1) (oi:=?o1_1) (v:=?v1_1) ?hi1_1 (by kernel_rfl) (by kernel_rfl) (by kernel_rfl) ?hq1_1 (Or.inl ⟨?hg1_1,?hy1_1⟩) hHeld ?rest1_1
  case hi1_1=>(simp only [List.getElem?_toArray,List.getElem?_cons_succ,List.getElem?_cons_zero];rfl)
  case hq1_1=>exact fun _ _ _ h=>h
  case hg1_1=>rfl
  case hy1_1=>(intro w hSw;(try dsimp only at hSw);go_simp;(try with_reducible rfl))
  (try simp only [Act.put,List.setIfInBounds_toArray,List.set_cons_zero,List.set_cons_succ])
  refine wpAnyH_take (i:=2) (oi:=?o2_2) (v:=?v2_2) ?hi2_2 (by kernel_rfl) (by kernel_rfl) (by kernel_rfl) ?hq2_2 (Or.inl ⟨?hg2_2,?hy2_2⟩) hHeld ?rest2_2
  case hi2_2=>(simp only [List.getElem?_toArray,List.getElem?_cons_succ,List.getElem?_cons_zero];rfl)
  case hq2_2=>exact fun _ _ _ h=>h
  case hg2_2=>rfl
  case hy2_2=>(intro w hSw;(try dsimp only at hSw);go_simp;(try with_reducible rfl))
  (try simp only [Act.put,List.setIfInBounds_toArray,List.set_cons_zero,List.set_cons_succ])
  refine wpAnyH_take (i:=3) (oi:=?o3_3) (v:=?v3_3) ?hi3_3 (by kernel_rfl) (by kernel_rfl) (by kernel_rfl) ?hq3_3 (Or.inl ⟨?hg3_3,?hy3_3⟩) hHeld ?rest3_3
  case hi3_3=>(simp only [List.getElem?_toArray,List.getElem?_cons_succ,List.getElem?_cons_zero];rfl)
  case hq3_3=>exact fun _ _ _ h=>h
  case hg3_3=>rfl
  case hy3_3=>(intro w hSw;(try dsimp only at hSw);go_simp;(try with_reducible rfl))
  (try simp only [Act.put,List.setIfInBounds_toArray,List.set_cons_zero,List.set_cons_succ])
  refine wpAnyH_take (i:=4) (oi:=?o4_4) (v:=?v4_4) ?hi4_4 (by kernel_rfl) (by kernel_rfl) (by kernel_rfl) ?hq4_4 (Or.inl ⟨?hg4_4,?hy4_4⟩) hHeld ?rest4_4
  case hi4_4=>(simp only [List.getElem?_toArray,List.getElem?_cons_succ,List.getElem?_cons_zero];rfl)
  case hq4_4=>exact fun _ _ _ h=>h
  case hg4_4=>rfl
  case hy4_4=>(intro w hSw;(try dsimp only at hSw);go_simp;(try with_reducible rfl))
  (try simp only [Act.put,List.setIfInBounds_toArray,List.set_cons_zero,List.set_cons_succ])
  refine wpAnyH_take (i:=5) (oi:=?o5_5) (v:=?v5_5) ?hi5_5 (by kernel_rfl) (by kernel_rfl) (by kernel_rfl) ?hq5_5 (Or.inl ⟨?hg5_5,?hy5_5⟩) hHeld ?rest5_5
  case hi5_5=>(simp only [List.getElem?_toArray,List.getElem?_cons_succ,List.getElem?_cons_zero];rfl)
  case hq5_5=>exact fun _ _ _ h=>h
  case hg5_5=>rfl
  case hy5_5=>(intro w hSw;(try dsimp only at hSw);go_simp;(try with_reducible rfl))
  (try simp only [Act.put,List.setIfInBounds_toArray,List.set_cons_zero,List.set_cons_succ])
  refine wpAnyH_take (i:=6) (oi:=?o6_6) (v:=?v6_6) ?hi6_6 (by kernel_rfl) (by kernel_rfl) (by kernel_rfl) ?hq6_6 (Or.inl ⟨?hg6_6,?hy6_6⟩) hHeld ?rest6_6
  case hi6_6=>(simp only [List.getElem?_toArray,List.getElem?_cons_succ,List.getElem?_cons_zero];rfl)
  case hq6_6=>exact fun _ _ _ h=>h
  case hg6_6=>rfl
  case hy6_6=>(intro w hSw;(try dsimp only at hSw);go_simp;(try with_reducible rfl))
  (try simp only [Act.put,List.setIfInBounds_toArray,List.set_cons_zero,List.set_cons_succ])
  refine wpAnyH_take (i:=8) (oi:=?o8_7) (v:=?v8_7) ?hi8_7 (by kernel_rfl) (by kernel_rfl) (by kernel_rfl) ?hq8_7 (Or.inl ⟨?hg8_7,?hy8_7⟩) hHeld ?rest8_7
  case hi8_7=>(simp only [List.getElem?_toArray,List.getElem?_cons_succ,List.getElem?_cons_zero];rfl)
  case hq8_7=>exact fun _ _ _ h=>h
  case hg8_7=>rfl
  case hy8_7=>(intro w hSw;(try dsimp only at hSw);go_simp;(try with_reducible rfl))
  (try simp only [Act.put,List.setIfInBounds_toArray,List.set_cons_zero,List.set_cons_succ])
  refine wpAnyH_take (i:=9) (oi:=?o9_8) (v:=?v9_8) ?hi9_8 (by kernel_rfl) (by kernel_rfl) (by kernel_rfl) ?hq9_8 (Or.inl ⟨?hg9_8,?hy9_8⟩) hHeld ?rest9_8
  case hi9_8=>(simp only [List.getElem?_toArray,List.getElem?_cons_succ,List.getElem?_cons_zero];rfl)
  case hq9_8=>exact fun _ _ _ h=>h
  case hg9_8=>rfl
  case hy9_8=>(intro w hSw;(try dsimp only at hSw);go_simp;(try with_reducible rfl))
  (try simp only [Act.put,List.setIfInBounds_toArray,List.set_cons_zero,List.set_cons_succ])
  refine wpAnyH_take (i:=10) (oi:=?o10_9) (v:=?v10_9) ?hi10_9 (by kernel_rfl) (by kernel_rfl) (by kernel_rfl) ?hq10_9 (Or.inl ⟨?hg10_9,?hy10_9⟩) hHeld ?rest10_9
  case hi10_9=>(simp only [List.getElem?_toArray,List.getElem?_cons_succ,List.getElem?_cons_zero];rfl)
  case hq10_9=>exact fun _ _ _ h=>h
  case hg10_9=>rfl
  case hy10_9=>(intro w hSw;(try dsimp only at hSw);go_simp;(try with_reducible rfl))
  (try simp only [Act.put,List.setIfInBounds_toArray,List.set_cons_zero,List.set_cons_succ])
  refine wpAnyH_take (i:=11) (oi:=?o11_10) (v:=?v11_10) ?hi11_10 (by kernel_rfl) (by kernel_rfl) (by kernel_rfl) ?hq11_10 (Or.inl ⟨?hg11_10,?hy11_10⟩) hHeld ?rest11_10
  case hi11_10=>(simp only [List.getElem?_toArray,List.getElem?_cons_succ,List.getElem?_cons_zero];rfl)
  case hq11_10=>exact fun _ _ _ h=>h
  case hg11_10=>rfl
  case hy11_10=>(intro w hSw;(try dsimp only at hSw);go_simp;(try with_reducible rfl))
  (try simp only [Act.put,List.setIfInBounds_toArray,List.set_cons_zero,List.set_cons_succ])
  refine wpAnyH_take (i:=13) (oi:=?o13_11) (v:=?v13_11) ?hi13_11 (by kernel_rfl) (by kernel_rfl) (by kernel_rfl) ?hq13_11 (Or.inl ⟨?hg13_11,?hy13_11⟩) hHeld ?rest13_11
  case hi13_11=>(simp only [List.getElem?_toArray,List.getElem?_cons_succ,List.getElem?_cons_zero];rfl)
  case hq13_11=>exact fun _ _ _ h=>h
  case hg13_11=>rfl
  case hy13_11=>(intro w hSw;(try dsimp only at hSw);go_simp;(try with_reducible rfl))
  (try simp only [Act.put,List.setIfInBounds_toArray,List.set_cons_zero,List.set_cons_succ])
  refine wpAnyH_take (i:=14) (oi:=?o14_12) (v:=?v14_12) ?hi14_12 (by kernel_rfl) (by kernel_rfl) (by kernel_rfl) ?hq14_12 (Or.inl ⟨?hg14_12,?hy14_12⟩) hHeld ?rest14_12
  case hi14_12=>(simp only [List.getElem?_toArray,List.getElem?_cons_succ,List.getElem?_cons_zero];rfl)
  case hq14_12=>exact fun _ _ _ h=>h
  case hg14_12=>rfl
  case hy14_12=>(intro w hSw;(try dsimp only at hSw);go_simp;(try with_reducible rfl))
  (try simp only [Act.put,List.setIfInBounds_toArray,List.set_cons_zero,List.set_cons_succ])
  refine wpAnyH_take (i:=15) (oi:=?o15_13) (v:=?v15_13) ?hi15_13 (by kernel_rfl) (by kernel_rfl) (by kernel_rfl) ?hq15_13 (Or.inl ⟨?hg15_13,?hy15_13⟩) hHeld ?rest15_13
  case hi15_13=>(simp only [List.getElem?_toArray,List.getElem?_cons_succ,List.getElem?_cons_zero];rfl)
  case hq15_13=>exact fun _ _ _ h=>h
  case hg15_13=>rfl
  case hy15_13=>(intro w hSw;(try dsimp only at hSw);go_simp;(try with_reducible rfl))
  (try simp only [Act.put,List.setIfInBounds_toArray,List.set_cons_zero,List.set_cons_succ])
  refine wpAnyH_ready (rs:=[7,12]) (by kernel_rfl) (by simp) ?_
  refine AllReadyH.cons (o:=?p7_22) ?ho7_22 (fun KK hK=>?step7_22) ?more7_22
  case ho7_22=>(simp only [List.getElem?_toArray,List.getElem?_cons_succ,List.getElem?_cons_zero];rfl)
  case step7_22 =>
   have hbD:=Qb (Below.refl w3.heap.size w3)
   go_simp
   (go_at_call 145;refine (QaC gs b off cap _ (QI.later hA3 (Qb (Below.refl _ _))) (by omega)).mono ?_;rintro e w4 h4;obtain ⟨A4,c4,rfl,hown4,hb4⟩:=JB.slice h4)
   have hbC:=Qa (Qb (Below.refl w3.heap.size w3)) hb4
   (try go_wp2_with fail)
   refine hK.out _ _ ⟨keep hbC l0,keep hbC l1,keep hbC k1,keep hbC k2⟩ (fun hH2=>?_)
   clear hHeld hK KK
   have hHeld:=hH2
   clear hH2
   (try simp only [Act.put,List.setIfInBounds_toArray,List.set_cons_zero,List.set_cons_succ])
   refine wpAnyH_ready (rs:=[12]) (by kernel_rfl) (by simp) ?_
   refine AllReadyH.cons (o:=?p12_17) ?ho12_17 (fun KK hK=>?step12_17) ?more12_17
   case ho12_17=>(simp only [List.getElem?_toArray,List.getElem?_cons_succ,List.getElem?_cons_zero];rfl)
   case step12_17 =>
    go_simp
    (try go_wp2_with fail)
    refine hK.out _ _ ⟨keep (Qa hbC (Qc _ _)) l0,keep (Qa hbC (Qc _ _)) l1,keep (Qa hbC (Qc _ _)) k1,keep (Qa hbC (Qc _ _)) k2⟩ (fun hH2=>?_)
    clear hHeld hK KK
    have hHeld:=hH2
    clear hH2
    (try simp only [Act.put,List.setIfInBounds_toArray,List.set_cons_zero,List.set_cons_succ])
    refine wpAnyH_take (i:=16) (oi:=?o16_14) (v:=?v16_14) ?hi16_14 (by kernel_rfl) (by kernel_rfl) (by kernel_rfl) ?hq16_14 (Or.inl ⟨?hg16_14,?hy16_14⟩) hHeld ?rest16_14
    case hi16_14=>(simp only [List.getElem?_toArray,List.getElem?_cons_succ,List.getElem?_cons_zero];rfl)
    case hq16_14=>exact fun _ _ _ h=>h
    case hg16_14=>rfl
    case hy16_14=>(intro w hSw;(try dsimp only at hSw);go_simp;(try with_reducible rfl))
    (try simp only [Act.put,List.setIfInBounds_toArray,List.set_cons_zero,List.set_cons_succ])
    refine wpAnyH_ready (rs:=[17]) (by kernel_rfl) (by simp) ?_
    refine AllReadyH.cons (o:=?p17_16) ?ho17_16 (fun KK hK=>?step17_16) ?more17_16
    case ho17_16=>(simp only [List.getElem?_toArray,List.getElem?_cons_succ,List.getElem?_cons_zero];rfl)
    case step17_16 =>
     go_simp
     (try go_wp2_with fail)
     refine hK.out _ _ ⟨keep (Qa hbC (ZL _ _ _)) l0,keep (Qa hbC (ZL _ _ _)) l1,keep (Qa hbC (ZL _ _ _)) k1,keep (Qa hbC (ZL _ _ _)) k2⟩ (fun hH2=>?_)
     clear hHeld hK KK
     have hHeld:=hH2
     clear hH2
     (try simp only [Act.put,List.setIfInBounds_toArray,List.set_cons_zero,List.set_cons_succ])
     refine wpAnyH_ready (rs:=[18]) (by kernel_rfl) (by simp) ?_
     refine AllReadyH.cons (o:=?p18_15) ?ho18_15 (fun KK hK=>?step18_15) ?more18_15
     case ho18_15=>(simp only [List.getElem?_toArray,List.getElem?_cons_succ,List.getElem?_cons_zero];rfl)
     case step18_15 =>
      go_simp
      (try go_wp2_with fail)
      refine hK.out _ _ ⟨keep (Qa hbC (QdD _ _ _ _)) l0,keep (Qa hbC (QdD _ _ _ _)) l1,keep (Qa hbC (QdD _ _ _ _)) k1,keep (Qa hbC (QdD _ _ _ _)) k2⟩ (fun hH2=>?_)
      clear hHeld hK KK
      have hHeld:=hH2
      clear hH2
      (try simp only [Act.put,List.setIfInBounds_toArray,List.set_cons_zero,List.set_cons_succ])
      have hP:=Qo6 (i:=i) (n1:=n1) (fb:=fb) H3.out.row hB3 hbC hown4 hbD.size
      refine wpAnyH_done (by kernel_rfl) ?_ _
      show wpList _ _ _ _ _ _
      go_wp2_with (at_builtin;refine Y8 rfl _ _ 164 rfl B 191 i0 _ 8 Tryz.underlying164 hi0 hz0 hz1 hz2 rfl v (es.map QK.ptr) rfl hP.own ⟨_,0,none⟩ 1 _ rfl hP.news VG (QA (by rw [List.length_map];omega)) (by rw [List.length_map];omega) hP.base ?_;intro v15 w15 HO15 hg15 hv15;obtain ⟨A15,k15,rfl⟩:=K0 HO15;rw [List.length_append,List.length_map,List.length_singleton] at HO15 hv15 ⊢;have hP2:=hP;obtain ⟨hS15,hS16,hc15,hf15⟩:=H3.out.after hnw l0 l1 hP.bel hg15)
      refine NoPanic.normal ?_
      go_wp2
      go_meet
      have hL:x.l ++ [⟨i,gs,n1,[],decide (gs.length=1)⟩]=x.l ++ [⟨i,gs,n1,[],fb⟩]:=by rw [hfb'.out]
      rw [hL]
      obtain ⟨e,he1,he2,he3,he4⟩:=hP2.ent
      rw [<- he2]
      have hr:QC w15 B 191 (.slice A15 (es.length+1) k15) (es.map QK.ptr ++ [e.ptr]):=by rw [he1];exact HO15
      have hG:=H3.out.grow hP2.bel he3 he4 hg15 hr hv15
      exact ⟨rfl,_,_,hG.1,hG.2⟩
     exact AllReadyH.nil
    exact AllReadyH.nil
   exact AllReadyH.nil
  refine AllReadyH.cons (o:=?p12_23) ?ho12_23 (fun KK hK=>?step12_23) ?more12_23
  case ho12_23=>(simp only [List.getElem?_toArray,List.getElem?_cons_succ,List.getElem?_cons_zero];rfl)
  case step12_23 =>
   go_simp
   (try go_wp2_with fail)
   refine hK.out _ _ ⟨keep (Qc w3.drew _) l0,keep (Qc w3.drew _) l1,keep (Qc w3.drew _) k1,keep (Qc w3.drew _) k2⟩ (fun hH2=>?_)
   clear hHeld hK KK
   have hHeld:=hH2
   clear hH2
   (try simp only [Act.put,List.setIfInBounds_toArray,List.set_cons_zero,List.set_cons_succ])
   refine wpAnyH_ready (rs:=[7]) (by kernel_rfl) (by simp) ?_
   refine AllReadyH.cons (o:=?p7_21) ?ho7_21 (fun KK hK=>?step7_21) ?more7_21
   case ho7_21=>(simp only [List.getElem?_toArray,List.getElem?_cons_succ,List.getElem?_cons_zero];rfl)
   case step7_21 =>
    go_simp
    (go_at_call 145;refine (QaC gs b off cap _ (QI.later hA3 (Qa (Qb (Below.refl _ _)) (Qc _ _))) (by omega)).mono ?_;rintro e w4 h4;obtain ⟨A4,c4,rfl,hown4,hb4⟩:=JB.slice h4)
    have hbD:=Qa (Qb (Below.refl w3.heap.size w3)) (Qc _ (.map #[] 0))
    have hbC:=Qa hbD hb4
    (try go_wp2_with fail)
    refine hK.out _ _ ⟨keep hbC l0,keep hbC l1,keep hbC k1,keep hbC k2⟩ (fun hH2=>?_)
    clear hHeld hK KK
    have hHeld:=hH2
    clear hH2
    (try simp only [Act.put,List.setIfInBounds_toArray,List.set_cons_zero,List.set_cons_succ])
    refine wpAnyH_take (i:=16) (oi:=?o16_18) (v:=?v16_18) ?hi16_18 (by kernel_rfl) (by kernel_rfl) (by kernel_rfl) ?hq16_18 (Or.inl ⟨?hg16_18,?hy16_18⟩) hHeld ?rest16_18
    case hi16_18=>(simp only [List.getElem?_toArray,List.getElem?_cons_succ,List.getElem?_cons_zero];rfl)
    case hq16_18=>exact fun _ _ _ h=>h
    case hg16_18=>rfl
    case hy16_18=>(intro w hSw;(try dsimp only at hSw);go_simp;(try with_reducible rfl))
    (try simp only [Act.put,List.setIfInBounds_toArray,List.set_cons_zero,List.set_cons_succ])
    refine wpAnyH_ready (rs:=[17]) (by kernel_rfl) (by simp) ?_
    refine AllReadyH.cons (o:=?p17_20) ?ho17_20 (fun KK hK=>?step17_20) ?more17_20
    case ho17_20=>(simp only [List.getElem?_toArray,List.getElem?_cons_succ,List.getElem?_cons_zero];rfl)
    case step17_20 =>
     go_simp
     (try go_wp2_with fail)
     refine hK.out _ _ ⟨keep (Qa hbC (Qc _ _)) l0,keep (Qa hbC (Qc _ _)) l1,keep (Qa hbC (Qc _ _)) k1,keep (Qa hbC (Qc _ _)) k2⟩ (fun hH2=>?_)
     clear hHeld hK KK
     have hHeld:=hH2
     clear hH2
     (try simp only [Act.put,List.setIfInBounds_toArray,List.set_cons_zero,List.set_cons_succ])
     refine wpAnyH_ready (rs:=[18]) (by kernel_rfl) (by simp) ?_
     refine AllReadyH.cons (o:=?p18_19) ?ho18_19 (fun KK hK=>?step18_19) ?more18_19
     case ho18_19=>(simp only [List.getElem?_toArray,List.getElem?_cons_succ,List.getElem?_cons_zero];rfl)
     case step18_19 =>
      go_simp
      (try go_wp2_with fail)
      refine hK.out _ _ ⟨keep (Qa hbC (ZL _ _ _)) l0,keep (Qa hbC (ZL _ _ _)) l1,keep (Qa hbC (ZL _ _ _)) k1,keep (Qa hbC (ZL _ _ _)) k2⟩ (fun hH2=>?_)
      clear hHeld hK KK
      have hHeld:=hH2
      clear hH2
      (try simp only [Act.put,List.setIfInBounds_toArray,List.set_cons_zero,List.set_cons_succ])
      have hP:=Qnx (mb:=w3.heap.size) (i:=i) (n1:=n1) (fb:=fb) H3.out.row hB3 hbC hown4 hbD.size (JY.later (QfH w3.drew) hb4) (Nat.le_refl _)
      refine wpAnyH_done (by kernel_rfl) ?_ _
      show wpList _ _ _ _ _ _
      go_wp2_with (at_builtin;refine Y8 rfl _ _ 164 rfl B 191 i0 _ 8 Tryz.underlying164 hi0 hz0 hz1 hz2 rfl v (es.map QK.ptr) rfl hP.own ⟨_,0,none⟩ 1 _ rfl hP.news VG (QA (by rw [List.length_map];omega)) (by rw [List.length_map];omega) hP.base ?_;intro v15 w15 HO15 hg15 hv15;obtain ⟨A15,k15,rfl⟩:=K0 HO15;rw [List.length_append,List.length_map,List.length_singleton] at HO15 hv15 ⊢;have hP2:=hP;obtain ⟨hS15,hS16,hc15,hf15⟩:=H3.out.after hnw l0 l1 hP.bel hg15)
      refine NoPanic.normal ?_
      go_wp2
      go_meet
      have hL:x.l ++ [⟨i,gs,n1,[],decide (gs.length=1)⟩]=x.l ++ [⟨i,gs,n1,[],fb⟩]:=by rw [hfb'.out]
      rw [hL]
      obtain ⟨e,he1,he2,he3,he4⟩:=hP2.ent
      rw [<- he2]
      have hr:QC w15 B 191 (.slice A15 (es.length+1) k15) (es.map QK.ptr ++ [e.ptr]):=by rw [he1];exact HO15
      have hG:=H3.out.grow hP2.bel he3 he4 hg15 hr hv15
      exact ⟨rfl,_,_,hG.1,hG.2⟩
     exact AllReadyH.nil
    exact AllReadyH.nil
   exact AllReadyH.nil
  exact AllReadyH.nil
 case rest =>
  obtain ⟨rfl,v',e',hI5,ho5⟩:=hcut
  obtain ⟨w5,rfl⟩:∃ wq:World,wq=wc:=⟨_,rfl⟩
  have hid:((x.l ++ [(⟨i,gs,n1,[],decide (gs.length=1)⟩:Qz)]).map Qz.id).Nodup:=by
   rw [List.map_append,List.nodup_append]
   refine ⟨HX.out.nd,by simp,fun a ha b' hb'=>?_⟩
   obtain ⟨o,ho,rfl⟩:=List.mem_map.1 ha
   simp only [List.map_cons,List.map_nil,List.mem_singleton] at hb'
   rw [hb']
   exact QiG HF.out o ho
  have hkn:∀ o ∈ x.l ++ [(⟨i,gs,n1,[],decide (gs.length=1)⟩:Qz)],(o.known.map (·.1)).Nodup:=fun o ho=>by
   rcases List.mem_append.1 ho with ho | ho
   ·exact (HX.out.one o ho).nd
   ·rw [List.mem_singleton.1 ho];exact List.Pairwise.nil
  have HS:=Lib.hid (Qe1 hI5 hkn hid (by simp) (by have:=hI5.len;simp at this;simp;omega))
  have hoW:Hid (Qg O w w5):=(((Qg.of_below HB).trans' (Qg.of_below hb1)).trans' (Qg.of_below hb2)).trans' (ho3.trans' ho5)
  have hs5:Hid (w.heap.size<=w3.heap.size/\B<=w.heap.size):=⟨by have:=hb1.size;have:=hb2.size;have:=ho3.size;omega,Nat.le_of_lt (Nat.lt_of_le_of_lt (hO.out p H.out.hp).1 (hO.out p H.out.hp).2)⟩
  have hBQ:Hid (QG x i gs=⟨x.g,n1,Je (x.l ++ [(⟨i,gs,n1,[],decide (gs.length=1)⟩:Qz)])⟩):=by
   show _=_
   rw [QG,HK.out,if_pos rfl,Ks, <- hn1.out]
  clear hid hkn
  replace ho5:=Lib.hid ho5
  go_wp2_with (go_at_call 146;(with_reducible refine HS.out.mono ?_);rintro e w6 ⟨rfl,ho6,es6,hI6⟩;obtain ⟨_,m1,_⟩:=hI6.cs;dsimp only at m1;replace hI6:=Lib.hid hI6;replace ho6:=Lib.hid ho6)
  go_ret2
  refine ⟨rfl,?_,?_⟩
  ·rw [hBQ.out]
   have hs56:=ho6.out.size
   exact ⟨_,_,hI6.out.mono (fun k hk=>hk.elim .inl (fun q=>.inr ⟨by have:=hs5.out.1;omega,by omega⟩)) (fun k hk=>hk.elim (fun q=>⟨(hO.out k q).1,by have:=(hO.out k q).2;have:=hoW.out.size;omega⟩) (fun q=>⟨by have:=hs5.out.2;omega,q.2⟩))⟩
  ·have h6:Qg O w3 w6:=ho5.out.trans ho6.out
   exact (((Qg.of_below HB).trans' (Qg.of_below hb1)).trans' (Qg.of_below hb2)).trans' (ho3.trans' h6)
end Go.Proofs.YtcldpmkhpmlcbaaGreatDoor
